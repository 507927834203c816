/- Stripped texts of functions, printed by gen.py out of the loaded program; Lean checks each against it. -/
import Derived.Test.YteijojnahpeglaaK3
import Derived.Test.YteijojnahpeglaaProg
import Derived.KernelRfl
/-! Stripped texts of functions, printed by gen.py out of the loaded program; Lean checks each against it. -/
namespace Go.Proofs.Yteijojnahpeglaa.AM
open Go Go.RowKit
set_option linter.unusedVariables false
set_option linter.defProp false
theorem mixed : Try.prog.follows .mixedOrders = true := by kernel_rfl
theorem ty_byE_22 : byE Try.prog 22 = some 8 := by kernel_rfl
theorem ty_byE_25 : byE Try.prog 25 = some 24 := by kernel_rfl
theorem ty_byE_55 : byE Try.prog 55 = some 1 := by kernel_rfl
theorem ty_byE_93 : byE Try.prog 93 = some 32 := by kernel_rfl
theorem ty_elT_22 : elT Try.prog 22 = some 3 := by kernel_rfl
theorem ty_elT_25 : elT Try.prog 25 = some 22 := by kernel_rfl
theorem ty_elT_93 : elT Try.prog 93 = some 59 := by kernel_rfl
theorem ty_fOff_101_0 : fOff Try.prog 101 0 = some 0 := by kernel_rfl
theorem ty_fOff_101_1 : fOff Try.prog 101 1 = some 3 := by kernel_rfl
theorem ty_fOff_101_2 : fOff Try.prog 101 2 = some 4 := by kernel_rfl
theorem ty_fOff_101_3 : fOff Try.prog 101 3 = some 5 := by kernel_rfl
theorem ty_fOff_122_0 : fOff Try.prog 122 0 = some 0 := by kernel_rfl
theorem ty_fOff_122_1 : fOff Try.prog 122 1 = some 1 := by kernel_rfl
theorem ty_fOff_122_2 : fOff Try.prog 122 2 = some 2 := by kernel_rfl
theorem ty_fOff_24_0 : fOff Try.prog 24 0 = some 0 := by kernel_rfl
theorem ty_fOff_24_1 : fOff Try.prog 24 1 = some 1 := by kernel_rfl
theorem ty_fOff_24_2 : fOff Try.prog 24 2 = some 2 := by kernel_rfl
theorem ty_fOff_27_0 : fOff Try.prog 27 0 = some 0 := by kernel_rfl
theorem ty_fOff_27_1 : fOff Try.prog 27 1 = some 3 := by kernel_rfl
theorem ty_fOff_27_2 : fOff Try.prog 27 2 = some 4 := by kernel_rfl
theorem ty_fOff_44_0 : fOff Try.prog 44 0 = some 0 := by kernel_rfl
theorem ty_fOff_44_1 : fOff Try.prog 44 1 = some 5 := by kernel_rfl
theorem ty_fOff_44_2 : fOff Try.prog 44 2 = some 6 := by kernel_rfl
theorem ty_fOff_44_3 : fOff Try.prog 44 3 = some 7 := by kernel_rfl
theorem ty_fOff_59_0 : fOff Try.prog 59 0 = some 0 := by kernel_rfl
theorem ty_fOff_59_1 : fOff Try.prog 59 1 = some 1 := by kernel_rfl
theorem ty_intT_3 : intT Try.prog 3 = some .i64 := by kernel_rfl
theorem ty_intT_52 : intT Try.prog 52 = some .u64 := by kernel_rfl
theorem ty_intT_67 : intT Try.prog 67 = some .u64 := by kernel_rfl
theorem ty_isA_22 : isA Try.prog 22 = some false := by kernel_rfl
theorem ty_isA_24 : isA Try.prog 24 = some true := by kernel_rfl
theorem ty_isA_25 : isA Try.prog 25 = some false := by kernel_rfl
theorem ty_isA_27 : isA Try.prog 27 = some true := by kernel_rfl
theorem ty_isA_3 : isA Try.prog 3 = some false := by kernel_rfl
theorem ty_isA_4 : isA Try.prog 4 = some false := by kernel_rfl
theorem ty_isA_59 : isA Try.prog 59 = some true := by kernel_rfl
theorem ty_isA_75 : isA Try.prog 75 = some false := by kernel_rfl
theorem ty_isA_86 : isA Try.prog 86 = some true := by kernel_rfl
theorem ty_plT_101 : plT Try.prog 101 = some [(0, 3), (3, 1), (4, 1), (5, 1)] := by kernel_rfl
theorem ty_plT_122 : plT Try.prog 122 = some [(0, 1), (1, 1), (2, 1)] := by kernel_rfl
theorem ty_plT_24 : plT Try.prog 24 = some [(0, 1), (1, 1), (2, 1)] := by kernel_rfl
theorem ty_plT_27 : plT Try.prog 27 = some [(0, 3), (3, 1), (4, 1)] := by kernel_rfl
theorem ty_plT_59 : plT Try.prog 59 = some [(0, 1), (1, 1)] := by kernel_rfl
theorem ty_plT_86 : plT Try.prog 86 = some [(0, 1), (1, 2), (3, 1)] := by kernel_rfl
theorem ty_szE_22 : szE Try.prog 22 = some 1 := by kernel_rfl
theorem ty_szE_25 : szE Try.prog 25 = some 1 := by kernel_rfl
theorem ty_szE_55 : szE Try.prog 55 = some 1 := by kernel_rfl
theorem ty_szE_93 : szE Try.prog 93 = some 2 := by kernel_rfl
theorem ty_szT_22 : szT Try.prog 22 = some 1 := by kernel_rfl
theorem ty_szT_24 : szT Try.prog 24 = some 3 := by kernel_rfl
theorem ty_szT_25 : szT Try.prog 25 = some 1 := by kernel_rfl
theorem ty_szT_27 : szT Try.prog 27 = some 5 := by kernel_rfl
theorem ty_szT_3 : szT Try.prog 3 = some 1 := by kernel_rfl
theorem ty_szT_4 : szT Try.prog 4 = some 1 := by kernel_rfl
theorem ty_szT_59 : szT Try.prog 59 = some 2 := by kernel_rfl
theorem ty_szT_75 : szT Try.prog 75 = some 1 := by kernel_rfl
theorem ty_szT_86 : szT Try.prog 86 = some 4 := by kernel_rfl
theorem ty_zrE_22 : zrE Try.prog 22 = some [.int .i64 0] := by kernel_rfl
theorem ty_zrE_25 : zrE Try.prog 25 = some [.nils] := by kernel_rfl
theorem ty_zrE_55 : zrE Try.prog 55 = some [.bool false] := by kernel_rfl
theorem ty_zrE_93 : zrE Try.prog 93 = some [.int .i64 0, .nils] := by kernel_rfl
theorem ty_zrT_101 : zrT Try.prog 101 = some [.int .i64 0, .int .i64 0, .nils, .int .i64 0, .nils, .nils] := by kernel_rfl
theorem ty_zrT_122 : zrT Try.prog 122 = some [.nilp, .nils, .nils] := by kernel_rfl
theorem ty_zrT_24 : zrT Try.prog 24 = some [.int .i64 0, .int .i64 0, .nils] := by kernel_rfl
theorem ty_zrT_27 : zrT Try.prog 27 = some [.int .i64 0, .int .i64 0, .nils, .int .i64 0, .nils] := by kernel_rfl
theorem ty_zrT_3 : zrT Try.prog 3 = some [.int .i64 0] := by kernel_rfl
theorem ty_zrT_59 : zrT Try.prog 59 = some [.int .i64 0, .nils] := by kernel_rfl
theorem ty_zrT_86 : zrT Try.prog 86 = some [.nilp, .int .i64 0, .nils, .nils] := by kernel_rfl
def TY := And.intro @ty_byE_22 <|
  And.intro @ty_byE_25 <|
  And.intro @ty_byE_55 <|
  And.intro @ty_byE_93 <|
  And.intro @ty_elT_22 <|
  And.intro @ty_elT_25 <|
  And.intro @ty_elT_93 <|
  And.intro @ty_fOff_101_0 <|
  And.intro @ty_fOff_101_1 <|
  And.intro @ty_fOff_101_2 <|
  And.intro @ty_fOff_101_3 <|
  And.intro @ty_fOff_122_0 <|
  And.intro @ty_fOff_122_1 <|
  And.intro @ty_fOff_122_2 <|
  And.intro @ty_fOff_24_0 <|
  And.intro @ty_fOff_24_1 <|
  And.intro @ty_fOff_24_2 <|
  And.intro @ty_fOff_27_0 <|
  And.intro @ty_fOff_27_1 <|
  And.intro @ty_fOff_27_2 <|
  And.intro @ty_fOff_44_0 <|
  And.intro @ty_fOff_44_1 <|
  And.intro @ty_fOff_44_2 <|
  And.intro @ty_fOff_44_3 <|
  And.intro @ty_fOff_59_0 <|
  And.intro @ty_fOff_59_1 <|
  And.intro @ty_intT_3 <|
  And.intro @ty_intT_52 <|
  And.intro @ty_intT_67 <|
  And.intro @ty_isA_22 <|
  And.intro @ty_isA_24 <|
  And.intro @ty_isA_25 <|
  And.intro @ty_isA_27 <|
  And.intro @ty_isA_3 <|
  And.intro @ty_isA_4 <|
  And.intro @ty_isA_59 <|
  And.intro @ty_isA_75 <|
  And.intro @ty_isA_86 <|
  And.intro @ty_plT_101 <|
  And.intro @ty_plT_122 <|
  And.intro @ty_plT_24 <|
  And.intro @ty_plT_27 <|
  And.intro @ty_plT_59 <|
  And.intro @ty_plT_86 <|
  And.intro @ty_szE_22 <|
  And.intro @ty_szE_25 <|
  And.intro @ty_szE_55 <|
  And.intro @ty_szE_93 <|
  And.intro @ty_szT_22 <|
  And.intro @ty_szT_24 <|
  And.intro @ty_szT_25 <|
  And.intro @ty_szT_27 <|
  And.intro @ty_szT_3 <|
  And.intro @ty_szT_4 <|
  And.intro @ty_szT_59 <|
  And.intro @ty_szT_75 <|
  And.intro @ty_szT_86 <|
  And.intro @ty_zrE_22 <|
  And.intro @ty_zrE_25 <|
  And.intro @ty_zrE_55 <|
  And.intro @ty_zrE_93 <|
  And.intro @ty_zrT_101 <|
  And.intro @ty_zrT_122 <|
  And.intro @ty_zrT_24 <|
  And.intro @ty_zrT_27 <|
  And.intro @ty_zrT_3 <|
  And.intro @ty_zrT_59 <|
  @ty_zrT_86
/-! ### function 2: gosem.cut.init -/
def s2 : SC :=
  .reg [⟨some 0, .call { callee := .value (.func 1), args := #[], argTypes := #[] }, none⟩]
theorem at2 {args : List AV} {H : AH} {Q : AV → AH → Prop} (hl : args.length ≤ 1) (h : swp Try.prog s2 (fin Try.prog [] Q) (env0 args) H) : AC Try.prog 2 args H Q :=
  AC.of (fun _ => []) Try.func2 rfl (by kernel_rfl) mixed (by kernel_rfl) (by kernel_rfl) rfl hl h
/-! ### function 3: codewright/codewrightlaw48.OrderingDimensions -/
def pl3 : Nat → Plan
  | 7 => [(0, []), (1, []), (2, []), (3, []), (4, [0]), (5, []), (6, []), (7, []), (8, []), (9, []), (10, [])]
  | _ => []
def s3 : SC :=
  .seq (.reg [⟨some 2, .box 27 (.tmp 0), none⟩,
    ⟨some 4, .assign (.const (.bool false)), none⟩]) (.seq (.reg [⟨some 12, .load 27 (.tmp 2), none⟩,
    ⟨some 13, .move (.tmp 1), none⟩,
    ⟨some 14, .call { callee := .value (.func 11), args := #[.tmp 12, .tmp 13], argTypes := #[27, 22] }, none⟩,
    ⟨some 11, .move (.tmp 14), none⟩,
    ⟨some 15, .extract (.tmp 11) 0, none⟩,
    ⟨some 16, .extract (.tmp 11) 1, none⟩,
    ⟨some 5, .assign (.tmp 15), none⟩,
    ⟨some 6, .assign (.tmp 16), none⟩]) (.seq (.reg [⟨some 18, .load 27 (.tmp 2), none⟩,
    ⟨some 19, .move (.tmp 1), none⟩,
    ⟨some 20, .call { callee := .value (.func 12), args := #[.tmp 18, .tmp 19], argTypes := #[27, 22] }, none⟩,
    ⟨some 17, .move (.tmp 20), none⟩,
    ⟨some 21, .extract (.tmp 17) 0, none⟩,
    ⟨some 22, .extract (.tmp 17) 1, none⟩,
    ⟨some 7, .assign (.tmp 21), none⟩,
    ⟨some 8, .assign (.tmp 22), none⟩]) (.seq (.seq (.reg [⟨some 23, .move (.tmp 5), none⟩,
    ⟨some 24, .move (.tmp 7), none⟩,
    ⟨some 25, .binOp .neq 3 (.tmp 23) (.tmp 24) 3, none⟩,
    ⟨some 26, .move (.tmp 25), none⟩,
    ⟨some 27, .move (.tmp 6), some (26, false)⟩,
    ⟨some 28, .move (.tmp 8), some (26, false)⟩,
    ⟨some 29, .binOp .neq 28 (.tmp 27) (.tmp 28) 28, some (26, false)⟩,
    ⟨some 30, .pick (.tmp 26) (.const (.bool true)) (.tmp 29), none⟩,
    ⟨some 31, .move (.tmp 30), none⟩,
    ⟨some 32, .call { callee := .value (.func 13), args := #[], argTypes := #[] }, some (31, false)⟩,
    ⟨some 33, .unOp .not 4 (.tmp 32), some (31, false)⟩,
    ⟨some 34, .pick (.tmp 31) (.const (.bool true)) (.tmp 33), none⟩]) (.cond (.tmp 34) (.seq (.reg [⟨some 4, .assign (.const (.bool false)), none⟩]) .ret) .skip)) (.seq (.seq (.reg [⟨some 35, .move (.tmp 8), none⟩,
    ⟨some 36, .binOp .neq 28 (.tmp 35) (.const (.int .i64 0)) 28, none⟩]) (.cond (.tmp 36) (.seq (.reg [⟨some 4, .assign (.const (.bool true)), none⟩]) .ret) .skip)) (.seq (.draw [(0, [], ⟨some 38, .load 27 (.tmp 2), none⟩),
    (1, [], ⟨some 39, .fieldAddr 27 (.tmp 2) 1, none⟩),
    (2, [], ⟨some 40, .load 3 (.tmp 39), none⟩),
    (3, [], ⟨some 41, .move (.tmp 1), none⟩),
    (4, [0], ⟨some 42, .call { callee := .value (.func 14), args := #[.tmp 40, .tmp 41], argTypes := #[3, 22] }, none⟩),
    (5, [], ⟨some 43, .call { callee := .value (.func 11), args := #[.tmp 38, .tmp 42], argTypes := #[27, 22] }, none⟩),
    (6, [], ⟨some 37, .move (.tmp 43), none⟩),
    (7, [], ⟨some 44, .extract (.tmp 37) 0, none⟩),
    (8, [], ⟨some 45, .extract (.tmp 37) 1, none⟩),
    (9, [], ⟨some 9, .assign (.tmp 44), none⟩),
    (10, [], ⟨some 10, .assign (.tmp 45), none⟩)]) (.seq (.reg [⟨some 46, .move (.tmp 9), none⟩,
    ⟨some 47, .move (.tmp 5), none⟩,
    ⟨some 48, .binOp .eql 3 (.tmp 46) (.tmp 47) 3, none⟩,
    ⟨some 49, .move (.tmp 48), none⟩,
    ⟨some 50, .move (.tmp 10), some (49, true)⟩,
    ⟨some 51, .binOp .eql 28 (.tmp 50) (.const (.int .i64 0)) 28, some (49, true)⟩,
    ⟨some 52, .pick (.tmp 49) (.tmp 51) (.const (.bool false)), none⟩,
    ⟨some 53, .move (.tmp 52), none⟩,
    ⟨some 54, .move (.tmp 5), some (53, true)⟩,
    ⟨some 55, .fieldAddr 27 (.tmp 2) 2, some (53, true)⟩,
    ⟨some 56, .load 25 (.tmp 55), some (53, true)⟩,
    ⟨some 57, .call { callee := .builtin .len, args := #[.tmp 56], argTypes := #[25] }, some (53, true)⟩,
    ⟨some 58, .binOp .leq 3 (.tmp 54) (.tmp 57) 3, some (53, true)⟩,
    ⟨some 59, .pick (.tmp 53) (.tmp 58) (.const (.bool false)), none⟩,
    ⟨some 60, .move (.tmp 59), none⟩,
    ⟨some 61, .move (.tmp 5), some (60, true)⟩,
    ⟨some 62, .fieldAddr 27 (.tmp 2) 1, some (60, true)⟩,
    ⟨some 63, .load 3 (.tmp 62), some (60, true)⟩,
    ⟨some 64, .fieldAddr 27 (.tmp 2) 2, some (60, true)⟩,
    ⟨some 65, .load 25 (.tmp 64), some (60, true)⟩,
    ⟨some 66, .call { callee := .builtin .len, args := #[.tmp 65], argTypes := #[25] }, some (60, true)⟩,
    ⟨some 67, .binOp .sub 3 (.tmp 63) (.tmp 66) 3, some (60, true)⟩,
    ⟨some 68, .binOp .leq 3 (.tmp 61) (.tmp 67) 3, some (60, true)⟩,
    ⟨some 69, .pick (.tmp 60) (.tmp 68) (.const (.bool false)), none⟩,
    ⟨some 4, .assign (.tmp 69), none⟩]) .ret))))))
theorem at3 {args : List AV} {H : AH} {Q : AV → AH → Prop} (hl : args.length ≤ 70) (h : swp Try.prog s3 (fin Try.prog [.tmp 4] Q) (env0 args) H) : AC Try.prog 3 args H Q :=
  AC.of (pl3) Try.func3 rfl (by kernel_rfl) mixed (by kernel_rfl) (by kernel_rfl) rfl hl h
/-! ### function 4: codewright/codewrightlaw48.OrderingModular -/
def s4 : SC :=
  .seq (.reg [⟨some 3, .box 27 (.tmp 0), none⟩,
    ⟨some 6, .assign (.const (.bool false)), none⟩]) (.seq (.seq (.reg [⟨some 21, .call { callee := .value (.func 13), args := #[], argTypes := #[] }, none⟩,
    ⟨some 22, .unOp .not 4 (.tmp 21), none⟩]) (.cond (.tmp 22) (.seq (.reg [⟨some 6, .assign (.const (.bool false)), none⟩]) .ret) .skip)) (.seq (.seq (.reg [⟨some 23, .load 27 (.tmp 3), none⟩,
    ⟨some 24, .call { callee := .value (.func 15), args := #[.tmp 23], argTypes := #[27] }, none⟩,
    ⟨some 25, .binOp .neq 28 (.tmp 24) (.const (.int .i64 0)) 28, none⟩,
    ⟨some 26, .move (.tmp 25), none⟩,
    ⟨some 27, .fieldAddr 27 (.tmp 3) 1, some (26, false)⟩,
    ⟨some 28, .load 3 (.tmp 27), some (26, false)⟩,
    ⟨some 29, .move (.tmp 1), some (26, false)⟩,
    ⟨some 30, .call { callee := .value (.func 16), args := #[.tmp 28, .tmp 29], argTypes := #[3, 22] }, some (26, false)⟩,
    ⟨some 31, .unOp .not 4 (.tmp 30), some (26, false)⟩,
    ⟨some 32, .pick (.tmp 26) (.const (.bool true)) (.tmp 31), none⟩,
    ⟨some 33, .move (.tmp 32), none⟩,
    ⟨some 34, .fieldAddr 27 (.tmp 3) 1, some (33, false)⟩,
    ⟨some 35, .load 3 (.tmp 34), some (33, false)⟩,
    ⟨some 36, .move (.tmp 2), some (33, false)⟩,
    ⟨some 37, .call { callee := .value (.func 16), args := #[.tmp 35, .tmp 36], argTypes := #[3, 22] }, some (33, false)⟩,
    ⟨some 38, .unOp .not 4 (.tmp 37), some (33, false)⟩,
    ⟨some 39, .pick (.tmp 33) (.const (.bool true)) (.tmp 38), none⟩]) (.cond (.tmp 39) (.seq (.reg [⟨some 6, .assign (.const (.bool true)), none⟩]) .ret) .skip)) (.seq (.reg [⟨some 40, .fieldAddr 27 (.tmp 3) 1, none⟩,
    ⟨some 41, .load 3 (.tmp 40), none⟩,
    ⟨some 42, .makeSlice 22 (.tmp 41) (.tmp 41), none⟩,
    ⟨some 7, .assign (.tmp 42), none⟩]) (.seq (.seq (.reg [⟨some 8, .assign (.const (.int .i64 0)), none⟩]) (.block 0 (.loop (.seq (.seq (.reg [⟨some 43, .move (.tmp 8), none⟩,
    ⟨some 44, .move (.tmp 1), none⟩,
    ⟨some 45, .call { callee := .builtin .len, args := #[.tmp 44], argTypes := #[22] }, none⟩,
    ⟨some 46, .binOp .lss 3 (.tmp 43) (.tmp 45) 3, none⟩]) (.cond (.tmp 46) .skip (.exit 0))) (.seq (.block 1 (.reg [⟨some 49, .move (.tmp 7), none⟩,
    ⟨some 50, .move (.tmp 1), none⟩,
    ⟨some 51, .move (.tmp 8), none⟩,
    ⟨some 52, .indexAddr 22 (.tmp 50) (.tmp 51), none⟩,
    ⟨some 53, .load 3 (.tmp 52), none⟩,
    ⟨some 54, .indexAddr 22 (.tmp 49) (.tmp 53), none⟩,
    ⟨some 55, .load 3 (.tmp 54), none⟩,
    ⟨some 56, .binOp .add 3 (.tmp 55) (.const (.int .i64 1)) 3, none⟩,
    ⟨some 57, .indexAddr 22 (.tmp 49) (.tmp 53), none⟩,
    ⟨none, .store 3 (.tmp 57) (.tmp 56), none⟩])) (.reg [⟨some 47, .move (.tmp 8), none⟩,
    ⟨some 48, .binOp .add 3 (.tmp 47) (.const (.int .i64 1)) 3, none⟩,
    ⟨some 8, .assign (.tmp 48), none⟩])))))) (.seq (.seq (.reg [⟨some 9, .assign (.const (.int .i64 0)), none⟩]) (.block 2 (.loop (.seq (.seq (.reg [⟨some 58, .move (.tmp 9), none⟩,
    ⟨some 59, .move (.tmp 2), none⟩,
    ⟨some 60, .call { callee := .builtin .len, args := #[.tmp 59], argTypes := #[22] }, none⟩,
    ⟨some 61, .binOp .lss 3 (.tmp 58) (.tmp 60) 3, none⟩]) (.cond (.tmp 61) .skip (.exit 2))) (.seq (.block 3 (.reg [⟨some 64, .move (.tmp 7), none⟩,
    ⟨some 65, .move (.tmp 2), none⟩,
    ⟨some 66, .move (.tmp 9), none⟩,
    ⟨some 67, .indexAddr 22 (.tmp 65) (.tmp 66), none⟩,
    ⟨some 68, .load 3 (.tmp 67), none⟩,
    ⟨some 69, .indexAddr 22 (.tmp 64) (.tmp 68), none⟩,
    ⟨some 70, .load 3 (.tmp 69), none⟩,
    ⟨some 71, .binOp .add 3 (.tmp 70) (.const (.int .i64 1)) 3, none⟩,
    ⟨some 72, .indexAddr 22 (.tmp 64) (.tmp 68), none⟩,
    ⟨none, .store 3 (.tmp 72) (.tmp 71), none⟩])) (.reg [⟨some 62, .move (.tmp 9), none⟩,
    ⟨some 63, .binOp .add 3 (.tmp 62) (.const (.int .i64 1)) 3, none⟩,
    ⟨some 9, .assign (.tmp 63), none⟩])))))) (.seq (.reg [⟨some 73, .buildSlice 22 0 #[], none⟩,
    ⟨some 10, .assign (.tmp 73), none⟩]) (.seq (.reg [⟨some 74, .buildSlice 22 0 #[], none⟩,
    ⟨some 11, .assign (.tmp 74), none⟩]) (.seq (.seq (.reg [⟨some 12, .assign (.const (.int .i64 0)), none⟩]) (.block 4 (.loop (.seq (.seq (.reg [⟨some 75, .move (.tmp 12), none⟩,
    ⟨some 76, .fieldAddr 27 (.tmp 3) 1, none⟩,
    ⟨some 77, .load 3 (.tmp 76), none⟩,
    ⟨some 78, .binOp .lss 3 (.tmp 75) (.tmp 77) 3, none⟩]) (.cond (.tmp 78) .skip (.exit 4))) (.seq (.block 5 (.seq (.seq (.reg [⟨some 81, .move (.tmp 7), none⟩,
    ⟨some 82, .move (.tmp 12), none⟩,
    ⟨some 83, .indexAddr 22 (.tmp 81) (.tmp 82), none⟩,
    ⟨some 84, .load 3 (.tmp 83), none⟩,
    ⟨some 85, .binOp .gtr 3 (.tmp 84) (.const (.int .i64 0)) 3, none⟩]) (.cond (.tmp 85) (.reg [⟨some 86, .move (.tmp 10), none⟩,
    ⟨some 87, .move (.tmp 12), none⟩,
    ⟨some 88, .buildSlice 22 1 #[(0, .tmp 87)], none⟩,
    ⟨some 89, .call { callee := .builtin .append, args := #[.tmp 86, .tmp 88], argTypes := #[22, 22] }, none⟩,
    ⟨some 10, .assign (.tmp 89), none⟩]) .skip)) (.seq (.reg [⟨some 90, .move (.tmp 7), none⟩,
    ⟨some 91, .move (.tmp 12), none⟩,
    ⟨some 92, .indexAddr 22 (.tmp 90) (.tmp 91), none⟩,
    ⟨some 93, .load 3 (.tmp 92), none⟩,
    ⟨some 94, .binOp .gtr 3 (.tmp 93) (.const (.int .i64 1)) 3, none⟩]) (.cond (.tmp 94) (.reg [⟨some 95, .move (.tmp 11), none⟩,
    ⟨some 96, .move (.tmp 12), none⟩,
    ⟨some 97, .buildSlice 22 1 #[(0, .tmp 96)], none⟩,
    ⟨some 98, .call { callee := .builtin .append, args := #[.tmp 95, .tmp 97], argTypes := #[22, 22] }, none⟩,
    ⟨some 11, .assign (.tmp 98), none⟩]) .skip)))) (.reg [⟨some 79, .move (.tmp 12), none⟩,
    ⟨some 80, .binOp .add 3 (.tmp 79) (.const (.int .i64 1)) 3, none⟩,
    ⟨some 12, .assign (.tmp 80), none⟩])))))) (.seq (.reg [⟨some 100, .load 27 (.tmp 3), none⟩,
    ⟨some 101, .move (.tmp 1), none⟩,
    ⟨some 102, .call { callee := .value (.func 11), args := #[.tmp 100, .tmp 101], argTypes := #[27, 22] }, none⟩,
    ⟨some 99, .move (.tmp 102), none⟩,
    ⟨some 103, .extract (.tmp 99) 0, none⟩,
    ⟨some 104, .extract (.tmp 99) 1, none⟩,
    ⟨some 13, .assign (.tmp 103), none⟩,
    ⟨some 14, .assign (.tmp 104), none⟩]) (.seq (.reg [⟨some 106, .load 27 (.tmp 3), none⟩,
    ⟨some 107, .move (.tmp 2), none⟩,
    ⟨some 108, .call { callee := .value (.func 11), args := #[.tmp 106, .tmp 107], argTypes := #[27, 22] }, none⟩,
    ⟨some 105, .move (.tmp 108), none⟩,
    ⟨some 109, .extract (.tmp 105) 0, none⟩,
    ⟨some 110, .extract (.tmp 105) 1, none⟩,
    ⟨some 15, .assign (.tmp 109), none⟩,
    ⟨some 16, .assign (.tmp 110), none⟩]) (.seq (.reg [⟨some 112, .load 27 (.tmp 3), none⟩,
    ⟨some 113, .move (.tmp 10), none⟩,
    ⟨some 114, .call { callee := .value (.func 11), args := #[.tmp 112, .tmp 113], argTypes := #[27, 22] }, none⟩,
    ⟨some 111, .move (.tmp 114), none⟩,
    ⟨some 115, .extract (.tmp 111) 0, none⟩,
    ⟨some 116, .extract (.tmp 111) 1, none⟩,
    ⟨some 17, .assign (.tmp 115), none⟩,
    ⟨some 18, .assign (.tmp 116), none⟩]) (.seq (.reg [⟨some 118, .load 27 (.tmp 3), none⟩,
    ⟨some 119, .move (.tmp 11), none⟩,
    ⟨some 120, .call { callee := .value (.func 11), args := #[.tmp 118, .tmp 119], argTypes := #[27, 22] }, none⟩,
    ⟨some 117, .move (.tmp 120), none⟩,
    ⟨some 121, .extract (.tmp 117) 0, none⟩,
    ⟨some 122, .extract (.tmp 117) 1, none⟩,
    ⟨some 19, .assign (.tmp 121), none⟩,
    ⟨some 20, .assign (.tmp 122), none⟩]) (.seq (.reg [⟨some 123, .move (.tmp 14), none⟩,
    ⟨some 124, .binOp .eql 28 (.tmp 123) (.const (.int .i64 0)) 28, none⟩,
    ⟨some 125, .move (.tmp 124), none⟩,
    ⟨some 126, .move (.tmp 16), some (125, true)⟩,
    ⟨some 127, .binOp .eql 28 (.tmp 126) (.const (.int .i64 0)) 28, some (125, true)⟩,
    ⟨some 128, .pick (.tmp 125) (.tmp 127) (.const (.bool false)), none⟩,
    ⟨some 129, .move (.tmp 128), none⟩,
    ⟨some 130, .move (.tmp 18), some (129, true)⟩,
    ⟨some 131, .binOp .eql 28 (.tmp 130) (.const (.int .i64 0)) 28, some (129, true)⟩,
    ⟨some 132, .pick (.tmp 129) (.tmp 131) (.const (.bool false)), none⟩,
    ⟨some 133, .move (.tmp 132), none⟩,
    ⟨some 134, .move (.tmp 20), some (133, true)⟩,
    ⟨some 135, .binOp .eql 28 (.tmp 134) (.const (.int .i64 0)) 28, some (133, true)⟩,
    ⟨some 136, .pick (.tmp 133) (.tmp 135) (.const (.bool false)), none⟩,
    ⟨some 137, .move (.tmp 136), none⟩,
    ⟨some 138, .move (.tmp 17), some (137, true)⟩,
    ⟨some 139, .move (.tmp 19), some (137, true)⟩,
    ⟨some 140, .binOp .add 3 (.tmp 138) (.tmp 139) 3, some (137, true)⟩,
    ⟨some 141, .move (.tmp 13), some (137, true)⟩,
    ⟨some 142, .move (.tmp 15), some (137, true)⟩,
    ⟨some 143, .binOp .add 3 (.tmp 141) (.tmp 142) 3, some (137, true)⟩,
    ⟨some 144, .binOp .leq 3 (.tmp 140) (.tmp 143) 3, some (137, true)⟩,
    ⟨some 145, .pick (.tmp 137) (.tmp 144) (.const (.bool false)), none⟩,
    ⟨some 6, .assign (.tmp 145), none⟩]) .ret)))))))))))))
theorem at4 {args : List AV} {H : AH} {Q : AV → AH → Prop} (hl : args.length ≤ 146) (h : swp Try.prog s4 (fin Try.prog [.tmp 6] Q) (env0 args) H) : AC Try.prog 4 args H Q :=
  AC.of (fun _ => []) Try.func4 rfl (by kernel_rfl) mixed (by kernel_rfl) (by kernel_rfl) rfl hl h
/-! ### function 5: codewright/codewrightlaw48.OrderingSteps -/
def s5 : SC :=
  .seq (.reg [⟨some 3, .box 27 (.tmp 0), none⟩,
    ⟨some 6, .assign (.const (.bool false)), none⟩]) (.seq (.seq (.reg [⟨some 15, .call { callee := .value (.func 13), args := #[], argTypes := #[] }, none⟩,
    ⟨some 16, .unOp .not 4 (.tmp 15), none⟩]) (.cond (.tmp 16) (.seq (.reg [⟨some 6, .assign (.const (.bool false)), none⟩]) .ret) .skip)) (.seq (.seq (.reg [⟨some 17, .load 27 (.tmp 3), none⟩,
    ⟨some 18, .call { callee := .value (.func 15), args := #[.tmp 17], argTypes := #[27] }, none⟩,
    ⟨some 19, .binOp .neq 28 (.tmp 18) (.const (.int .i64 0)) 28, none⟩,
    ⟨some 20, .move (.tmp 19), none⟩,
    ⟨some 21, .fieldAddr 27 (.tmp 3) 1, some (20, false)⟩,
    ⟨some 22, .load 3 (.tmp 21), some (20, false)⟩,
    ⟨some 23, .move (.tmp 1), some (20, false)⟩,
    ⟨some 24, .call { callee := .value (.func 16), args := #[.tmp 22, .tmp 23], argTypes := #[3, 22] }, some (20, false)⟩,
    ⟨some 25, .unOp .not 4 (.tmp 24), some (20, false)⟩,
    ⟨some 26, .pick (.tmp 20) (.const (.bool true)) (.tmp 25), none⟩,
    ⟨some 27, .move (.tmp 26), none⟩,
    ⟨some 28, .move (.tmp 2), some (27, false)⟩,
    ⟨some 29, .binOp .lss 3 (.tmp 28) (.const (.int .i64 0)) 3, some (27, false)⟩,
    ⟨some 30, .pick (.tmp 27) (.const (.bool true)) (.tmp 29), none⟩,
    ⟨some 31, .move (.tmp 30), none⟩,
    ⟨some 32, .move (.tmp 2), some (31, false)⟩,
    ⟨some 33, .fieldAddr 27 (.tmp 3) 1, some (31, false)⟩,
    ⟨some 34, .load 3 (.tmp 33), some (31, false)⟩,
    ⟨some 35, .binOp .geq 3 (.tmp 32) (.tmp 34) 3, some (31, false)⟩,
    ⟨some 36, .pick (.tmp 31) (.const (.bool true)) (.tmp 35), none⟩]) (.cond (.tmp 36) (.seq (.reg [⟨some 6, .assign (.const (.bool true)), none⟩]) .ret) .skip)) (.seq (.reg [⟨some 37, .buildSlice 22 0 #[], none⟩,
    ⟨some 7, .assign (.tmp 37), none⟩]) (.seq (.seq (.reg [⟨some 8, .assign (.const (.int .i64 0)), none⟩]) (.block 0 (.loop (.seq (.seq (.reg [⟨some 38, .move (.tmp 8), none⟩,
    ⟨some 39, .fieldAddr 27 (.tmp 3) 1, none⟩,
    ⟨some 40, .load 3 (.tmp 39), none⟩,
    ⟨some 41, .binOp .lss 3 (.tmp 38) (.tmp 40) 3, none⟩]) (.cond (.tmp 41) .skip (.exit 0))) (.seq (.block 1 (.seq (.reg [⟨some 44, .move (.tmp 8), none⟩,
    ⟨some 45, .move (.tmp 2), none⟩,
    ⟨some 46, .binOp .eql 3 (.tmp 44) (.tmp 45) 3, none⟩,
    ⟨some 9, .assign (.tmp 46), none⟩]) (.seq (.seq (.reg [⟨some 10, .assign (.const (.int .i64 0)), none⟩]) (.block 2 (.loop (.seq (.seq (.reg [⟨some 47, .move (.tmp 10), none⟩,
    ⟨some 48, .move (.tmp 1), none⟩,
    ⟨some 49, .call { callee := .builtin .len, args := #[.tmp 48], argTypes := #[22] }, none⟩,
    ⟨some 50, .binOp .lss 3 (.tmp 47) (.tmp 49) 3, none⟩]) (.cond (.tmp 50) .skip (.exit 2))) (.seq (.block 3 (.reg [⟨some 53, .move (.tmp 9), none⟩,
    ⟨some 54, .move (.tmp 53), none⟩,
    ⟨some 55, .move (.tmp 1), some (54, false)⟩,
    ⟨some 56, .move (.tmp 10), some (54, false)⟩,
    ⟨some 57, .indexAddr 22 (.tmp 55) (.tmp 56), some (54, false)⟩,
    ⟨some 58, .load 3 (.tmp 57), some (54, false)⟩,
    ⟨some 59, .move (.tmp 8), some (54, false)⟩,
    ⟨some 60, .binOp .eql 3 (.tmp 58) (.tmp 59) 3, some (54, false)⟩,
    ⟨some 61, .pick (.tmp 54) (.const (.bool true)) (.tmp 60), none⟩,
    ⟨some 9, .assign (.tmp 61), none⟩])) (.reg [⟨some 51, .move (.tmp 10), none⟩,
    ⟨some 52, .binOp .add 3 (.tmp 51) (.const (.int .i64 1)) 3, none⟩,
    ⟨some 10, .assign (.tmp 52), none⟩])))))) (.seq (.reg [⟨some 62, .move (.tmp 9), none⟩]) (.cond (.tmp 62) (.reg [⟨some 63, .move (.tmp 7), none⟩,
    ⟨some 64, .move (.tmp 8), none⟩,
    ⟨some 65, .buildSlice 22 1 #[(0, .tmp 64)], none⟩,
    ⟨some 66, .call { callee := .builtin .append, args := #[.tmp 63, .tmp 65], argTypes := #[22, 22] }, none⟩,
    ⟨some 7, .assign (.tmp 66), none⟩]) .skip))))) (.reg [⟨some 42, .move (.tmp 8), none⟩,
    ⟨some 43, .binOp .add 3 (.tmp 42) (.const (.int .i64 1)) 3, none⟩,
    ⟨some 8, .assign (.tmp 43), none⟩])))))) (.seq (.reg [⟨some 68, .load 27 (.tmp 3), none⟩,
    ⟨some 69, .move (.tmp 1), none⟩,
    ⟨some 70, .call { callee := .value (.func 11), args := #[.tmp 68, .tmp 69], argTypes := #[27, 22] }, none⟩,
    ⟨some 67, .move (.tmp 70), none⟩,
    ⟨some 71, .extract (.tmp 67) 0, none⟩,
    ⟨some 72, .extract (.tmp 67) 1, none⟩,
    ⟨some 11, .assign (.tmp 71), none⟩,
    ⟨some 12, .assign (.tmp 72), none⟩]) (.seq (.reg [⟨some 74, .load 27 (.tmp 3), none⟩,
    ⟨some 75, .move (.tmp 7), none⟩,
    ⟨some 76, .call { callee := .value (.func 11), args := #[.tmp 74, .tmp 75], argTypes := #[27, 22] }, none⟩,
    ⟨some 73, .move (.tmp 76), none⟩,
    ⟨some 77, .extract (.tmp 73) 0, none⟩,
    ⟨some 78, .extract (.tmp 73) 1, none⟩,
    ⟨some 13, .assign (.tmp 77), none⟩,
    ⟨some 14, .assign (.tmp 78), none⟩]) (.seq (.reg [⟨some 79, .move (.tmp 12), none⟩,
    ⟨some 80, .binOp .eql 28 (.tmp 79) (.const (.int .i64 0)) 28, none⟩,
    ⟨some 81, .move (.tmp 80), none⟩,
    ⟨some 82, .move (.tmp 14), some (81, true)⟩,
    ⟨some 83, .binOp .eql 28 (.tmp 82) (.const (.int .i64 0)) 28, some (81, true)⟩,
    ⟨some 84, .pick (.tmp 81) (.tmp 83) (.const (.bool false)), none⟩,
    ⟨some 85, .move (.tmp 84), none⟩,
    ⟨some 86, .move (.tmp 11), some (85, true)⟩,
    ⟨some 87, .move (.tmp 13), some (85, true)⟩,
    ⟨some 88, .binOp .add 3 (.tmp 87) (.const (.int .i64 1)) 3, some (85, true)⟩,
    ⟨some 89, .binOp .leq 3 (.tmp 86) (.tmp 88) 3, some (85, true)⟩,
    ⟨some 90, .pick (.tmp 85) (.tmp 89) (.const (.bool false)), none⟩,
    ⟨some 91, .move (.tmp 90), none⟩,
    ⟨some 92, .move (.tmp 13), some (91, true)⟩,
    ⟨some 93, .move (.tmp 11), some (91, true)⟩,
    ⟨some 94, .binOp .add 3 (.tmp 93) (.const (.int .i64 1)) 3, some (91, true)⟩,
    ⟨some 95, .binOp .leq 3 (.tmp 92) (.tmp 94) 3, some (91, true)⟩,
    ⟨some 96, .pick (.tmp 91) (.tmp 95) (.const (.bool false)), none⟩,
    ⟨some 6, .assign (.tmp 96), none⟩]) .ret)))))))
theorem at5 {args : List AV} {H : AH} {Q : AV → AH → Prop} (hl : args.length ≤ 97) (h : swp Try.prog s5 (fin Try.prog [.tmp 6] Q) (env0 args) H) : AC Try.prog 5 args H Q :=
  AC.of (fun _ => []) Try.func5 rfl (by kernel_rfl) mixed (by kernel_rfl) (by kernel_rfl) rfl hl h
/-! ### function 6: codewright/codewrightlaw48.OrderingGreedy -/
def s6 : SC :=
  .seq (.reg [⟨some 1, .box 27 (.tmp 0), none⟩,
    ⟨some 2, .assign (.const (.bool false)), none⟩]) (.seq (.seq (.reg [⟨some 6, .load 27 (.tmp 1), none⟩,
    ⟨some 7, .call { callee := .value (.func 15), args := #[.tmp 6], argTypes := #[27] }, none⟩,
    ⟨some 8, .binOp .eql 28 (.tmp 7) (.const (.int .i64 0)) 28, none⟩,
    ⟨some 9, .move (.tmp 8), none⟩,
    ⟨some 10, .fieldAddr 27 (.tmp 1) 1, some (9, true)⟩,
    ⟨some 11, .load 3 (.tmp 10), some (9, true)⟩,
    ⟨some 12, .binOp .gtr 3 (.tmp 11) (.const (.int .i64 12)) 3, some (9, true)⟩,
    ⟨some 13, .pick (.tmp 9) (.tmp 12) (.const (.bool false)), none⟩]) (.cond (.tmp 13) (.seq (.reg [⟨some 14, .call { callee := .value (.func 13), args := #[], argTypes := #[] }, none⟩,
    ⟨some 2, .assign (.tmp 14), none⟩]) .ret) .skip)) (.seq (.reg [⟨some 16, .load 27 (.tmp 1), none⟩,
    ⟨some 17, .call { callee := .value (.func 17), args := #[.tmp 16], argTypes := #[27] }, none⟩,
    ⟨some 15, .move (.tmp 17), none⟩,
    ⟨some 18, .extract (.tmp 15) 0, none⟩,
    ⟨some 19, .extract (.tmp 15) 1, none⟩,
    ⟨some 3, .assign (.tmp 18), none⟩,
    ⟨some 4, .assign (.tmp 19), none⟩]) (.seq (.reg [⟨some 20, .load 27 (.tmp 1), none⟩,
    ⟨some 21, .call { callee := .value (.func 15), args := #[.tmp 20], argTypes := #[27] }, none⟩,
    ⟨some 5, .assign (.tmp 21), none⟩]) (.seq (.seq (.reg [⟨some 22, .move (.tmp 4), none⟩,
    ⟨some 23, .move (.tmp 5), none⟩,
    ⟨some 24, .binOp .neq 28 (.tmp 22) (.tmp 23) 28, none⟩,
    ⟨some 25, .move (.tmp 24), none⟩,
    ⟨some 26, .call { callee := .value (.func 13), args := #[], argTypes := #[] }, some (25, false)⟩,
    ⟨some 27, .unOp .not 4 (.tmp 26), some (25, false)⟩,
    ⟨some 28, .pick (.tmp 25) (.const (.bool true)) (.tmp 27), none⟩]) (.cond (.tmp 28) (.seq (.reg [⟨some 2, .assign (.const (.bool false)), none⟩]) .ret) .skip)) (.seq (.seq (.reg [⟨some 29, .move (.tmp 5), none⟩,
    ⟨some 30, .binOp .neq 28 (.tmp 29) (.const (.int .i64 0)) 28, none⟩]) (.cond (.tmp 30) (.seq (.reg [⟨some 31, .move (.tmp 3), none⟩,
    ⟨some 32, .call { callee := .builtin .len, args := #[.tmp 31], argTypes := #[22] }, none⟩,
    ⟨some 33, .binOp .eql 3 (.tmp 32) (.const (.int .i64 0)) 3, none⟩,
    ⟨some 2, .assign (.tmp 33), none⟩]) .ret) .skip)) (.seq (.reg [⟨some 34, .move (.tmp 3), none⟩,
    ⟨some 35, .load 27 (.tmp 1), none⟩,
    ⟨some 36, .call { callee := .value (.func 19), args := #[.tmp 35], argTypes := #[27] }, none⟩,
    ⟨some 37, .call { callee := .value (.func 18), args := #[.tmp 34, .tmp 36], argTypes := #[22, 22] }, none⟩,
    ⟨some 2, .assign (.tmp 37), none⟩]) .ret))))))
theorem at6 {args : List AV} {H : AH} {Q : AV → AH → Prop} (hl : args.length ≤ 38) (h : swp Try.prog s6 (fin Try.prog [.tmp 2] Q) (env0 args) H) : AC Try.prog 6 args H Q :=
  AC.of (fun _ => []) Try.func6 rfl (by kernel_rfl) mixed (by kernel_rfl) (by kernel_rfl) rfl hl h
/-! ### function 7: codewright/codewrightlaw48.OrderingAccepts -/
def pl7 : Nat → Plan
  | 3 => [(0, []), (1, []), (2, []), (3, []), (4, []), (5, []), (7, []), (8, []), (9, []), (10, []), (11, []), (12, []), (6, [8, 10, 12]), (13, []), (14, []), (15, []), (16, []), (17, []), (18, [])]
  | _ => []
def s7 : SC :=
  .seq (.reg [⟨some 1, .box 44 (.tmp 0), none⟩,
    ⟨some 2, .assign (.const (.bool false)), none⟩]) (.seq (.seq (.reg [⟨some 3, .fieldAddr 44 (.tmp 1) 0, none⟩,
    ⟨some 4, .load 27 (.tmp 3), none⟩,
    ⟨some 5, .call { callee := .value (.func 20), args := #[.tmp 4], argTypes := #[27] }, none⟩,
    ⟨some 6, .unOp .not 4 (.tmp 5), none⟩]) (.cond (.tmp 6) (.seq (.reg [⟨some 7, .call { callee := .value (.func 13), args := #[], argTypes := #[] }, none⟩,
    ⟨some 2, .assign (.tmp 7), none⟩]) .ret) .skip)) (.seq (.draw [(0, [], ⟨some 8, .fieldAddr 44 (.tmp 1) 0, none⟩),
    (1, [], ⟨some 9, .load 27 (.tmp 8), none⟩),
    (2, [], ⟨some 10, .fieldAddr 44 (.tmp 1) 1, none⟩),
    (3, [], ⟨some 11, .load 22 (.tmp 10), none⟩),
    (4, [], ⟨some 12, .fieldAddr 44 (.tmp 1) 2, none⟩),
    (5, [], ⟨some 13, .load 22 (.tmp 12), none⟩),
    (7, [], ⟨some 15, .fieldAddr 44 (.tmp 1) 0, none⟩),
    (8, [], ⟨some 16, .load 27 (.tmp 15), none⟩),
    (9, [], ⟨some 17, .fieldAddr 44 (.tmp 1) 1, none⟩),
    (10, [], ⟨some 18, .load 22 (.tmp 17), none⟩),
    (11, [], ⟨some 19, .fieldAddr 44 (.tmp 1) 2, none⟩),
    (12, [], ⟨some 20, .load 22 (.tmp 19), none⟩),
    (6, [8, 10, 12], ⟨some 14, .call { callee := .value (.func 21), args := #[.tmp 9, .tmp 11, .tmp 13], argTypes := #[27, 22, 22] }, none⟩),
    (13, [], ⟨some 21, .call { callee := .value (.func 22), args := #[.tmp 16, .tmp 18, .tmp 20], argTypes := #[27, 22, 22] }, none⟩),
    (14, [], ⟨some 22, .binOp .eql 28 (.tmp 14) (.tmp 21) 28, none⟩),
    (15, [], ⟨some 23, .move (.tmp 22), none⟩),
    (16, [], ⟨some 24, .call { callee := .value (.func 13), args := #[], argTypes := #[] }, some (23, true)⟩),
    (17, [], ⟨some 25, .pick (.tmp 23) (.tmp 24) (.const (.bool false)), none⟩),
    (18, [], ⟨some 2, .assign (.tmp 25), none⟩)]) .ret))
theorem at7 {args : List AV} {H : AH} {Q : AV → AH → Prop} (hl : args.length ≤ 26) (h : swp Try.prog s7 (fin Try.prog [.tmp 2] Q) (env0 args) H) : AC Try.prog 7 args H Q :=
  AC.of (pl7) Try.func7 rfl (by kernel_rfl) mixed (by kernel_rfl) (by kernel_rfl) rfl hl h
/-! ### function 8: codewright/codewrightlaw48.OrderingSound -/
def s8 : SC :=
  .seq (.reg [⟨some 1, .box 44 (.tmp 0), none⟩,
    ⟨some 2, .assign (.const (.bool false)), none⟩]) (.seq (.seq (.reg [⟨some 7, .call { callee := .value (.func 13), args := #[], argTypes := #[] }, none⟩,
    ⟨some 8, .unOp .not 4 (.tmp 7), none⟩]) (.cond (.tmp 8) (.seq (.reg [⟨some 2, .assign (.const (.bool false)), none⟩]) .ret) .skip)) (.seq (.seq (.reg [⟨some 9, .fieldAddr 44 (.tmp 1) 0, none⟩,
    ⟨some 10, .load 27 (.tmp 9), none⟩,
    ⟨some 11, .call { callee := .value (.func 20), args := #[.tmp 10], argTypes := #[27] }, none⟩,
    ⟨some 12, .unOp .not 4 (.tmp 11), none⟩,
    ⟨some 13, .move (.tmp 12), none⟩,
    ⟨some 14, .fieldAddr 44 (.tmp 1) 0, some (13, false)⟩,
    ⟨some 15, .load 27 (.tmp 14), some (13, false)⟩,
    ⟨some 16, .fieldAddr 44 (.tmp 1) 1, some (13, false)⟩,
    ⟨some 17, .load 22 (.tmp 16), some (13, false)⟩,
    ⟨some 18, .fieldAddr 44 (.tmp 1) 2, some (13, false)⟩,
    ⟨some 19, .load 22 (.tmp 18), some (13, false)⟩,
    ⟨some 20, .call { callee := .value (.func 21), args := #[.tmp 15, .tmp 17, .tmp 19], argTypes := #[27, 22, 22] }, some (13, false)⟩,
    ⟨some 21, .binOp .neq 28 (.tmp 20) (.const (.int .i64 0)) 28, some (13, false)⟩,
    ⟨some 22, .pick (.tmp 13) (.const (.bool true)) (.tmp 21), none⟩,
    ⟨some 23, .move (.tmp 22), none⟩,
    ⟨some 24, .fieldAddr 44 (.tmp 1) 0, some (23, false)⟩,
    ⟨some 25, .load 27 (.tmp 24), some (23, false)⟩,
    ⟨some 26, .fieldAddr 44 (.tmp 1) 3, some (23, false)⟩,
    ⟨some 27, .load 22 (.tmp 26), some (23, false)⟩,
    ⟨some 28, .call { callee := .value (.func 23), args := #[.tmp 25, .tmp 27], argTypes := #[27, 22] }, some (23, false)⟩,
    ⟨some 29, .binOp .neq 28 (.tmp 28) (.const (.int .i64 0)) 28, some (23, false)⟩,
    ⟨some 30, .pick (.tmp 23) (.const (.bool true)) (.tmp 29), none⟩]) (.cond (.tmp 30) (.seq (.reg [⟨some 2, .assign (.const (.bool true)), none⟩]) .ret) .skip)) (.seq (.reg [⟨some 32, .fieldAddr 44 (.tmp 1) 0, none⟩,
    ⟨some 33, .load 27 (.tmp 32), none⟩,
    ⟨some 34, .fieldAddr 44 (.tmp 1) 1, none⟩,
    ⟨some 35, .load 22 (.tmp 34), none⟩,
    ⟨some 36, .call { callee := .value (.func 24), args := #[.tmp 33, .tmp 35], argTypes := #[27, 22] }, none⟩,
    ⟨some 31, .move (.tmp 36), none⟩,
    ⟨some 37, .extract (.tmp 31) 0, none⟩,
    ⟨some 38, .extract (.tmp 31) 1, none⟩,
    ⟨some 3, .assign (.tmp 37), none⟩,
    ⟨some 4, .assign (.tmp 38), none⟩]) (.seq (.reg [⟨some 40, .fieldAddr 44 (.tmp 1) 0, none⟩,
    ⟨some 41, .load 27 (.tmp 40), none⟩,
    ⟨some 42, .fieldAddr 44 (.tmp 1) 3, none⟩,
    ⟨some 43, .load 22 (.tmp 42), none⟩,
    ⟨some 44, .call { callee := .value (.func 24), args := #[.tmp 41, .tmp 43], argTypes := #[27, 22] }, none⟩,
    ⟨some 39, .move (.tmp 44), none⟩,
    ⟨some 45, .extract (.tmp 39) 0, none⟩,
    ⟨some 46, .extract (.tmp 39) 1, none⟩,
    ⟨some 5, .assign (.tmp 45), none⟩,
    ⟨some 6, .assign (.tmp 46), none⟩]) (.seq (.reg [⟨some 47, .move (.tmp 4), none⟩,
    ⟨some 48, .binOp .eql 28 (.tmp 47) (.const (.int .i64 0)) 28, none⟩,
    ⟨some 49, .move (.tmp 48), none⟩,
    ⟨some 50, .move (.tmp 6), some (49, true)⟩,
    ⟨some 51, .binOp .eql 28 (.tmp 50) (.const (.int .i64 0)) 28, some (49, true)⟩,
    ⟨some 52, .pick (.tmp 49) (.tmp 51) (.const (.bool false)), none⟩,
    ⟨some 53, .move (.tmp 52), none⟩,
    ⟨some 54, .move (.tmp 3), some (53, true)⟩,
    ⟨some 55, .move (.tmp 5), some (53, true)⟩,
    ⟨some 56, .binOp .leq 3 (.tmp 54) (.tmp 55) 3, some (53, true)⟩,
    ⟨some 57, .pick (.tmp 53) (.tmp 56) (.const (.bool false)), none⟩,
    ⟨some 2, .assign (.tmp 57), none⟩]) .ret)))))
theorem at8 {args : List AV} {H : AH} {Q : AV → AH → Prop} (hl : args.length ≤ 58) (h : swp Try.prog s8 (fin Try.prog [.tmp 2] Q) (env0 args) H) : AC Try.prog 8 args H Q :=
  AC.of (fun _ => []) Try.func8 rfl (by kernel_rfl) mixed (by kernel_rfl) (by kernel_rfl) rfl hl h
/-! ### function 9: codewright/codewrightlaw48.OrderingDual -/
def s9 : SC :=
  .seq (.reg [⟨some 2, .box 27 (.tmp 0), none⟩,
    ⟨some 4, .assign (.const (.bool false)), none⟩]) (.seq (.seq (.reg [⟨some 11, .call { callee := .value (.func 13), args := #[], argTypes := #[] }, none⟩,
    ⟨some 12, .unOp .not 4 (.tmp 11), none⟩]) (.cond (.tmp 12) (.seq (.reg [⟨some 4, .assign (.const (.bool false)), none⟩]) .ret) .skip)) (.seq (.reg [⟨some 14, .load 27 (.tmp 2), none⟩,
    ⟨some 15, .move (.tmp 1), none⟩,
    ⟨some 16, .call { callee := .value (.func 24), args := #[.tmp 14, .tmp 15], argTypes := #[27, 22] }, none⟩,
    ⟨some 13, .move (.tmp 16), none⟩,
    ⟨some 17, .extract (.tmp 13) 0, none⟩,
    ⟨some 18, .extract (.tmp 13) 1, none⟩,
    ⟨some 5, .assign (.tmp 17), none⟩,
    ⟨some 6, .assign (.tmp 18), none⟩]) (.seq (.seq (.reg [⟨some 19, .load 27 (.tmp 2), none⟩,
    ⟨some 20, .move (.tmp 1), none⟩,
    ⟨some 21, .call { callee := .value (.func 23), args := #[.tmp 19, .tmp 20], argTypes := #[27, 22] }, none⟩,
    ⟨some 22, .binOp .neq 28 (.tmp 21) (.const (.int .i64 0)) 28, none⟩]) (.cond (.tmp 22) (.seq (.reg [⟨some 23, .move (.tmp 6), none⟩,
    ⟨some 24, .binOp .neq 28 (.tmp 23) (.const (.int .i64 0)) 28, none⟩,
    ⟨some 4, .assign (.tmp 24), none⟩]) .ret) .skip)) (.seq (.reg [⟨some 26, .load 27 (.tmp 2), none⟩,
    ⟨some 27, .call { callee := .value (.func 25), args := #[.tmp 26], argTypes := #[27] }, none⟩,
    ⟨some 25, .move (.tmp 27), none⟩,
    ⟨some 28, .extract (.tmp 25) 0, none⟩,
    ⟨some 29, .extract (.tmp 25) 1, none⟩,
    ⟨some 7, .alloc 27, none⟩,
    ⟨none, .store 27 (.tmp 7) (.tmp 28), none⟩,
    ⟨some 8, .assign (.tmp 29), none⟩]) (.seq (.reg [⟨some 31, .load 27 (.tmp 7), none⟩,
    ⟨some 32, .move (.tmp 1), none⟩,
    ⟨some 33, .call { callee := .value (.func 24), args := #[.tmp 31, .tmp 32], argTypes := #[27, 22] }, none⟩,
    ⟨some 30, .move (.tmp 33), none⟩,
    ⟨some 34, .extract (.tmp 30) 0, none⟩,
    ⟨some 35, .extract (.tmp 30) 1, none⟩,
    ⟨some 9, .assign (.tmp 34), none⟩,
    ⟨some 10, .assign (.tmp 35), none⟩]) (.seq (.reg [⟨some 36, .move (.tmp 6), none⟩,
    ⟨some 37, .binOp .eql 28 (.tmp 36) (.const (.int .i64 0)) 28, none⟩,
    ⟨some 38, .move (.tmp 37), none⟩,
    ⟨some 39, .move (.tmp 8), some (38, true)⟩,
    ⟨some 40, .binOp .eql 28 (.tmp 39) (.const (.int .i64 0)) 28, some (38, true)⟩,
    ⟨some 41, .pick (.tmp 38) (.tmp 40) (.const (.bool false)), none⟩,
    ⟨some 42, .move (.tmp 41), none⟩,
    ⟨some 43, .move (.tmp 10), some (42, true)⟩,
    ⟨some 44, .binOp .eql 28 (.tmp 43) (.const (.int .i64 0)) 28, some (42, true)⟩,
    ⟨some 45, .pick (.tmp 42) (.tmp 44) (.const (.bool false)), none⟩,
    ⟨some 46, .move (.tmp 45), none⟩,
    ⟨some 47, .move (.tmp 5), some (46, true)⟩,
    ⟨some 48, .move (.tmp 9), some (46, true)⟩,
    ⟨some 49, .binOp .eql 3 (.tmp 47) (.tmp 48) 3, some (46, true)⟩,
    ⟨some 50, .pick (.tmp 46) (.tmp 49) (.const (.bool false)), none⟩,
    ⟨some 4, .assign (.tmp 50), none⟩]) .ret))))))
theorem at9 {args : List AV} {H : AH} {Q : AV → AH → Prop} (hl : args.length ≤ 51) (h : swp Try.prog s9 (fin Try.prog [.tmp 4] Q) (env0 args) H) : AC Try.prog 9 args H Q :=
  AC.of (fun _ => []) Try.func9 rfl (by kernel_rfl) mixed (by kernel_rfl) (by kernel_rfl) rfl hl h
/-! ### function 10: codewright/codewrightlaw48.OrderingBest -/
def s10 : SC :=
  .seq (.reg [⟨some 1, .box 27 (.tmp 0), none⟩,
    ⟨some 2, .assign (.const (.bool false)), none⟩]) (.seq (.seq (.reg [⟨some 7, .load 27 (.tmp 1), none⟩,
    ⟨some 8, .call { callee := .value (.func 20), args := #[.tmp 7], argTypes := #[27] }, none⟩,
    ⟨some 9, .unOp .not 4 (.tmp 8), none⟩]) (.cond (.tmp 9) (.seq (.reg [⟨some 10, .call { callee := .value (.func 13), args := #[], argTypes := #[] }, none⟩,
    ⟨some 2, .assign (.tmp 10), none⟩]) .ret) .skip)) (.seq (.reg [⟨some 12, .load 27 (.tmp 1), none⟩,
    ⟨some 13, .call { callee := .value (.func 26), args := #[.tmp 12], argTypes := #[27] }, none⟩,
    ⟨some 11, .move (.tmp 13), none⟩,
    ⟨some 14, .extract (.tmp 11) 0, none⟩,
    ⟨some 15, .extract (.tmp 11) 1, none⟩,
    ⟨some 16, .extract (.tmp 11) 2, none⟩,
    ⟨some 3, .assign (.tmp 14), none⟩,
    ⟨some 4, .assign (.tmp 15), none⟩,
    ⟨some 5, .assign (.tmp 16), none⟩]) (.seq (.reg [⟨some 17, .load 27 (.tmp 1), none⟩,
    ⟨some 18, .call { callee := .value (.func 15), args := #[.tmp 17], argTypes := #[27] }, none⟩,
    ⟨some 6, .assign (.tmp 18), none⟩]) (.seq (.seq (.reg [⟨some 19, .move (.tmp 6), none⟩,
    ⟨some 20, .binOp .eql 28 (.tmp 19) (.const (.int .i64 0)) 28, none⟩,
    ⟨some 21, .move (.tmp 20), none⟩,
    ⟨some 22, .fieldAddr 27 (.tmp 1) 1, some (21, true)⟩,
    ⟨some 23, .load 3 (.tmp 22), some (21, true)⟩,
    ⟨some 24, .binOp .gtr 3 (.tmp 23) (.const (.int .i64 12)) 3, some (21, true)⟩,
    ⟨some 25, .pick (.tmp 21) (.tmp 24) (.const (.bool false)), none⟩]) (.cond (.tmp 25) (.reg [⟨some 6, .assign (.const (.int .i64 8)), none⟩]) .skip)) (.seq (.seq (.reg [⟨some 26, .move (.tmp 5), none⟩,
    ⟨some 27, .move (.tmp 6), none⟩,
    ⟨some 28, .binOp .neq 28 (.tmp 26) (.tmp 27) 28, none⟩,
    ⟨some 29, .move (.tmp 28), none⟩,
    ⟨some 30, .call { callee := .value (.func 13), args := #[], argTypes := #[] }, some (29, false)⟩,
    ⟨some 31, .unOp .not 4 (.tmp 30), some (29, false)⟩,
    ⟨some 32, .pick (.tmp 29) (.const (.bool true)) (.tmp 31), none⟩]) (.cond (.tmp 32) (.seq (.reg [⟨some 2, .assign (.const (.bool false)), none⟩]) .ret) .skip)) (.seq (.seq (.reg [⟨some 33, .move (.tmp 6), none⟩,
    ⟨some 34, .binOp .neq 28 (.tmp 33) (.const (.int .i64 0)) 28, none⟩]) (.cond (.tmp 34) (.seq (.reg [⟨some 35, .move (.tmp 3), none⟩,
    ⟨some 36, .call { callee := .builtin .len, args := #[.tmp 35], argTypes := #[22] }, none⟩,
    ⟨some 37, .binOp .eql 3 (.tmp 36) (.const (.int .i64 0)) 3, none⟩,
    ⟨some 38, .move (.tmp 37), none⟩,
    ⟨some 39, .move (.tmp 4), some (38, true)⟩,
    ⟨some 40, .call { callee := .builtin .len, args := #[.tmp 39], argTypes := #[22] }, some (38, true)⟩,
    ⟨some 41, .binOp .eql 3 (.tmp 40) (.const (.int .i64 0)) 3, some (38, true)⟩,
    ⟨some 42, .pick (.tmp 38) (.tmp 41) (.const (.bool false)), none⟩,
    ⟨some 2, .assign (.tmp 42), none⟩]) .ret) .skip)) (.seq (.reg [⟨some 43, .move (.tmp 3), none⟩,
    ⟨some 44, .load 27 (.tmp 1), none⟩,
    ⟨some 45, .call { callee := .value (.func 27), args := #[.tmp 44], argTypes := #[27] }, none⟩,
    ⟨some 46, .call { callee := .value (.func 18), args := #[.tmp 43, .tmp 45], argTypes := #[22, 22] }, none⟩,
    ⟨some 47, .move (.tmp 46), none⟩,
    ⟨some 48, .move (.tmp 4), some (47, true)⟩,
    ⟨some 49, .load 27 (.tmp 1), some (47, true)⟩,
    ⟨some 50, .call { callee := .value (.func 28), args := #[.tmp 49], argTypes := #[27] }, some (47, true)⟩,
    ⟨some 51, .call { callee := .value (.func 18), args := #[.tmp 48, .tmp 50], argTypes := #[22, 22] }, some (47, true)⟩,
    ⟨some 52, .pick (.tmp 47) (.tmp 51) (.const (.bool false)), none⟩,
    ⟨some 53, .move (.tmp 52), none⟩,
    ⟨some 54, .load 27 (.tmp 1), some (53, true)⟩,
    ⟨some 55, .move (.tmp 3), some (53, true)⟩,
    ⟨some 56, .move (.tmp 4), some (53, true)⟩,
    ⟨some 57, .call { callee := .value (.func 21), args := #[.tmp 54, .tmp 55, .tmp 56], argTypes := #[27, 22, 22] }, some (53, true)⟩,
    ⟨some 58, .binOp .eql 28 (.tmp 57) (.const (.int .i64 0)) 28, some (53, true)⟩,
    ⟨some 59, .pick (.tmp 53) (.tmp 58) (.const (.bool false)), none⟩,
    ⟨some 2, .assign (.tmp 59), none⟩]) .ret)))))))
theorem at10 {args : List AV} {H : AH} {Q : AV → AH → Prop} (hl : args.length ≤ 60) (h : swp Try.prog s10 (fin Try.prog [.tmp 2] Q) (env0 args) H) : AC Try.prog 10 args H Q :=
  AC.of (fun _ => []) Try.func10 rfl (by kernel_rfl) mixed (by kernel_rfl) (by kernel_rfl) rfl hl h
/-! ### function 11: codewright/ordering.Dimension -/
def s11 : SC :=
  .seq (.reg [⟨some 2, .box 27 (.tmp 0), none⟩,
    ⟨some 4, .assign (.const (.int .i64 0)), none⟩,
    ⟨some 5, .assign (.const (.int .i64 0)), none⟩]) (.seq (.seq (.reg [⟨some 10, .load 27 (.tmp 2), none⟩,
    ⟨some 11, .call { callee := .value (.func 29), args := #[.tmp 10], argTypes := #[27] }, none⟩,
    ⟨some 6, .assign (.tmp 11), none⟩]) (.seq (.reg [⟨some 12, .move (.tmp 6), none⟩,
    ⟨some 13, .binOp .neq 28 (.tmp 12) (.const (.int .i64 0)) 28, none⟩]) (.cond (.tmp 13) (.seq (.reg [⟨some 14, .move (.tmp 6), none⟩,
    ⟨some 4, .assign (.const (.int .i64 0)), none⟩,
    ⟨some 5, .assign (.tmp 14), none⟩]) .ret) .skip))) (.seq (.reg [⟨some 7, .assign (.const (.int .u64 0)), none⟩]) (.seq (.seq (.reg [⟨some 15, .move (.tmp 1), none⟩,
    ⟨some 16, .call { callee := .builtin .len, args := #[.tmp 15], argTypes := #[22] }, none⟩,
    ⟨some 17, .move (.const (.int .i64 0)), none⟩]) (.block 0 (.loop (.seq (.reg [⟨some 18, .binOp .lss 3 (.tmp 17) (.tmp 16) 3, none⟩]) (.seq (.cond (.tmp 18) .skip (.exit 0)) (.seq (.block 1 (.seq (.reg [⟨some 19, .move (.tmp 17), none⟩,
    ⟨some 20, .indexAddr 22 (.tmp 15) (.tmp 17), none⟩,
    ⟨some 21, .load 3 (.tmp 20), none⟩,
    ⟨some 8, .assign (.tmp 19), none⟩,
    ⟨some 9, .assign (.tmp 21), none⟩]) (.seq (.seq (.reg [⟨some 22, .move (.tmp 9), none⟩,
    ⟨some 23, .binOp .lss 3 (.tmp 22) (.const (.int .i64 0)) 3, none⟩,
    ⟨some 24, .move (.tmp 23), none⟩,
    ⟨some 25, .move (.tmp 9), some (24, false)⟩,
    ⟨some 26, .fieldAddr 27 (.tmp 2) 1, some (24, false)⟩,
    ⟨some 27, .load 3 (.tmp 26), some (24, false)⟩,
    ⟨some 28, .binOp .geq 3 (.tmp 25) (.tmp 27) 3, some (24, false)⟩,
    ⟨some 29, .pick (.tmp 24) (.const (.bool true)) (.tmp 28), none⟩,
    ⟨some 30, .move (.tmp 29), none⟩,
    ⟨some 31, .move (.tmp 8), some (30, false)⟩,
    ⟨some 32, .binOp .gtr 3 (.tmp 31) (.const (.int .i64 0)) 3, some (30, false)⟩,
    ⟨some 33, .move (.tmp 32), some (30, false)⟩,
    ⟨some 34, .move (.tmp 9), some (33, true)⟩,
    ⟨some 35, .move (.tmp 1), some (33, true)⟩,
    ⟨some 36, .move (.tmp 8), some (33, true)⟩,
    ⟨some 37, .binOp .sub 3 (.tmp 36) (.const (.int .i64 1)) 3, some (33, true)⟩,
    ⟨some 38, .indexAddr 22 (.tmp 35) (.tmp 37), some (33, true)⟩,
    ⟨some 39, .load 3 (.tmp 38), some (33, true)⟩,
    ⟨some 40, .binOp .leq 3 (.tmp 34) (.tmp 39) 3, some (33, true)⟩,
    ⟨some 41, .pick (.tmp 33) (.tmp 40) (.const (.bool false)), some (30, false)⟩,
    ⟨some 42, .pick (.tmp 30) (.const (.bool true)) (.tmp 41), none⟩]) (.cond (.tmp 42) (.seq (.reg [⟨some 4, .assign (.const (.int .i64 0)), none⟩,
    ⟨some 5, .assign (.const (.int .i64 5)), none⟩]) .ret) .skip)) (.reg [⟨some 43, .move (.tmp 7), none⟩,
    ⟨some 44, .move (.tmp 9), none⟩,
    ⟨some 45, .binOp .shl 52 (.const (.int .u64 1)) (.tmp 44) 3, none⟩,
    ⟨some 46, .binOp .or 52 (.tmp 43) (.tmp 45) 52, none⟩,
    ⟨some 7, .assign (.tmp 46), none⟩])))) (.reg [⟨some 47, .binOp .add 3 (.tmp 17) (.const (.int .i64 1)) 3, none⟩,
    ⟨some 17, .move (.tmp 47), none⟩]))))))) (.seq (.reg [⟨some 48, .load 27 (.tmp 2), none⟩,
    ⟨some 49, .move (.tmp 7), none⟩,
    ⟨some 50, .call { callee := .value (.func 30), args := #[.tmp 48, .tmp 49], argTypes := #[27, 52] }, none⟩,
    ⟨some 4, .assign (.tmp 50), none⟩,
    ⟨some 5, .assign (.const (.int .i64 0)), none⟩]) .ret))))
theorem at11 {args : List AV} {H : AH} {Q : AV → AH → Prop} (hl : args.length ≤ 51) (h : swp Try.prog s11 (fin Try.prog [.tmp 4, .tmp 5] Q) (env0 args) H) : AC Try.prog 11 args H Q :=
  AC.of (fun _ => []) Try.func11 rfl (by kernel_rfl) mixed (by kernel_rfl) (by kernel_rfl) rfl hl h
/-! ### function 12: codewright/codewrightref48.Dimension -/
def s12 : SC :=
  .seq (.reg [⟨some 2, .box 27 (.tmp 0), none⟩,
    ⟨some 4, .assign (.const (.int .i64 0)), none⟩,
    ⟨some 5, .assign (.const (.int .i64 0)), none⟩]) (.seq (.reg [⟨some 7, .load 27 (.tmp 2), none⟩,
    ⟨some 8, .call { callee := .value (.func 15), args := #[.tmp 7], argTypes := #[27] }, none⟩,
    ⟨some 6, .assign (.tmp 8), none⟩]) (.seq (.seq (.reg [⟨some 9, .move (.tmp 6), none⟩,
    ⟨some 10, .binOp .neq 28 (.tmp 9) (.const (.int .i64 0)) 28, none⟩]) (.cond (.tmp 10) (.seq (.reg [⟨some 11, .move (.tmp 6), none⟩,
    ⟨some 4, .assign (.const (.int .i64 0)), none⟩,
    ⟨some 5, .assign (.tmp 11), none⟩]) .ret) .skip)) (.seq (.seq (.reg [⟨some 12, .fieldAddr 27 (.tmp 2) 1, none⟩,
    ⟨some 13, .load 3 (.tmp 12), none⟩,
    ⟨some 14, .move (.tmp 1), none⟩,
    ⟨some 15, .call { callee := .value (.func 16), args := #[.tmp 13, .tmp 14], argTypes := #[3, 22] }, none⟩,
    ⟨some 16, .unOp .not 4 (.tmp 15), none⟩]) (.cond (.tmp 16) (.seq (.reg [⟨some 4, .assign (.const (.int .i64 0)), none⟩,
    ⟨some 5, .assign (.const (.int .i64 5)), none⟩]) .ret) .skip)) (.seq (.reg [⟨some 17, .load 27 (.tmp 2), none⟩,
    ⟨some 18, .move (.tmp 1), none⟩,
    ⟨some 19, .call { callee := .value (.func 31), args := #[.tmp 17, .tmp 18], argTypes := #[27, 22] }, none⟩,
    ⟨some 4, .assign (.tmp 19), none⟩,
    ⟨some 5, .assign (.const (.int .i64 0)), none⟩]) .ret))))
theorem at12 {args : List AV} {H : AH} {Q : AV → AH → Prop} (hl : args.length ≤ 20) (h : swp Try.prog s12 (fin Try.prog [.tmp 4, .tmp 5] Q) (env0 args) H) : AC Try.prog 12 args H Q :=
  AC.of (fun _ => []) Try.func12 rfl (by kernel_rfl) mixed (by kernel_rfl) (by kernel_rfl) rfl hl h
/-! ### function 13: codewright/codewrightlaw48.alive -/
def s13 : SC :=
  .seq (.reg [⟨some 0, .assign (.const (.bool false)), none⟩]) (.seq (.reg [⟨some 4, .build 24 #[(0, .const (.int .i64 2)), (1, .const (.int .i64 1))], none⟩,
    ⟨some 5, .buildSlice 22 2 #[(0, .const (.int .i64 1)), (1, .const (.int .i64 1))], none⟩,
    ⟨some 6, .buildSlice 25 1 #[(0, .tmp 5)], none⟩,
    ⟨some 7, .build 27 #[(0, .tmp 4), (1, .const (.int .i64 2)), (2, .tmp 6)], none⟩,
    ⟨some 8, .buildSlice 22 1 #[(0, .const (.int .i64 0))], none⟩,
    ⟨some 9, .call { callee := .value (.func 11), args := #[.tmp 7, .tmp 8], argTypes := #[27, 22] }, none⟩,
    ⟨some 3, .move (.tmp 9), none⟩,
    ⟨some 10, .extract (.tmp 3) 0, none⟩,
    ⟨some 11, .extract (.tmp 3) 1, none⟩,
    ⟨some 1, .assign (.tmp 10), none⟩,
    ⟨some 2, .assign (.tmp 11), none⟩]) (.seq (.reg [⟨some 12, .move (.tmp 1), none⟩,
    ⟨some 13, .binOp .eql 3 (.tmp 12) (.const (.int .i64 1)) 3, none⟩,
    ⟨some 14, .move (.tmp 13), none⟩,
    ⟨some 15, .move (.tmp 2), some (14, true)⟩,
    ⟨some 16, .binOp .eql 28 (.tmp 15) (.const (.int .i64 0)) 28, some (14, true)⟩,
    ⟨some 17, .pick (.tmp 14) (.tmp 16) (.const (.bool false)), none⟩,
    ⟨some 0, .assign (.tmp 17), none⟩]) .ret))
theorem at13 {args : List AV} {H : AH} {Q : AV → AH → Prop} (hl : args.length ≤ 18) (h : swp Try.prog s13 (fin Try.prog [.tmp 0] Q) (env0 args) H) : AC Try.prog 13 args H Q :=
  AC.of (fun _ => []) Try.func13 rfl (by kernel_rfl) mixed (by kernel_rfl) (by kernel_rfl) rfl hl h
/-! ### function 14: codewright/codewrightref48.Others -/
def s14 : SC :=
  .seq (.reg [⟨some 4, .assign (.const (.slice none 0 0)), none⟩]) (.seq (.reg [⟨some 9, .move (.tmp 0), none⟩,
    ⟨some 10, .makeSlice 55 (.tmp 9) (.tmp 9), none⟩,
    ⟨some 5, .assign (.tmp 10), none⟩]) (.seq (.seq (.reg [⟨some 6, .assign (.const (.int .i64 0)), none⟩]) (.block 0 (.loop (.seq (.seq (.reg [⟨some 11, .move (.tmp 6), none⟩,
    ⟨some 12, .move (.tmp 1), none⟩,
    ⟨some 13, .call { callee := .builtin .len, args := #[.tmp 12], argTypes := #[22] }, none⟩,
    ⟨some 14, .binOp .lss 3 (.tmp 11) (.tmp 13) 3, none⟩]) (.cond (.tmp 14) .skip (.exit 0))) (.seq (.block 1 (.reg [⟨some 17, .move (.tmp 5), none⟩,
    ⟨some 18, .move (.tmp 1), none⟩,
    ⟨some 19, .move (.tmp 6), none⟩,
    ⟨some 20, .indexAddr 22 (.tmp 18) (.tmp 19), none⟩,
    ⟨some 21, .load 3 (.tmp 20), none⟩,
    ⟨some 22, .indexAddr 55 (.tmp 17) (.tmp 21), none⟩,
    ⟨none, .store 4 (.tmp 22) (.const (.bool true)), none⟩])) (.reg [⟨some 15, .move (.tmp 6), none⟩,
    ⟨some 16, .binOp .add 3 (.tmp 15) (.const (.int .i64 1)) 3, none⟩,
    ⟨some 6, .assign (.tmp 16), none⟩])))))) (.seq (.reg [⟨some 23, .buildSlice 22 0 #[], none⟩,
    ⟨some 7, .assign (.tmp 23), none⟩]) (.seq (.seq (.reg [⟨some 8, .assign (.const (.int .i64 0)), none⟩]) (.block 2 (.loop (.seq (.seq (.reg [⟨some 24, .move (.tmp 8), none⟩,
    ⟨some 25, .move (.tmp 0), none⟩,
    ⟨some 26, .binOp .lss 3 (.tmp 24) (.tmp 25) 3, none⟩]) (.cond (.tmp 26) .skip (.exit 2))) (.seq (.block 3 (.seq (.reg [⟨some 29, .move (.tmp 5), none⟩,
    ⟨some 30, .move (.tmp 8), none⟩,
    ⟨some 31, .indexAddr 55 (.tmp 29) (.tmp 30), none⟩,
    ⟨some 32, .load 4 (.tmp 31), none⟩,
    ⟨some 33, .unOp .not 4 (.tmp 32), none⟩]) (.cond (.tmp 33) (.reg [⟨some 34, .move (.tmp 7), none⟩,
    ⟨some 35, .move (.tmp 8), none⟩,
    ⟨some 36, .buildSlice 22 1 #[(0, .tmp 35)], none⟩,
    ⟨some 37, .call { callee := .builtin .append, args := #[.tmp 34, .tmp 36], argTypes := #[22, 22] }, none⟩,
    ⟨some 7, .assign (.tmp 37), none⟩]) .skip))) (.reg [⟨some 27, .move (.tmp 8), none⟩,
    ⟨some 28, .binOp .add 3 (.tmp 27) (.const (.int .i64 1)) 3, none⟩,
    ⟨some 8, .assign (.tmp 28), none⟩])))))) (.seq (.reg [⟨some 38, .move (.tmp 7), none⟩,
    ⟨some 4, .assign (.tmp 38), none⟩]) .ret)))))
theorem at14 {args : List AV} {H : AH} {Q : AV → AH → Prop} (hl : args.length ≤ 39) (h : swp Try.prog s14 (fin Try.prog [.tmp 4] Q) (env0 args) H) : AC Try.prog 14 args H Q :=
  AC.of (fun _ => []) Try.func14 rfl (by kernel_rfl) mixed (by kernel_rfl) (by kernel_rfl) rfl hl h
/-! ### function 15: codewright/codewrightref12.Check -/
def s15 : SC :=
  .seq (.reg [⟨some 1, .box 27 (.tmp 0), none⟩,
    ⟨some 2, .assign (.const (.int .i64 0)), none⟩]) (.seq (.reg [⟨some 4, .fieldAddr 27 (.tmp 1) 0, none⟩,
    ⟨some 5, .load 24 (.tmp 4), none⟩,
    ⟨some 6, .call { callee := .value (.func 32), args := #[.tmp 5], argTypes := #[24] }, none⟩,
    ⟨some 3, .assign (.tmp 6), none⟩]) (.seq (.seq (.reg [⟨some 7, .move (.tmp 3), none⟩,
    ⟨some 8, .binOp .neq 28 (.tmp 7) (.const (.int .i64 0)) 28, none⟩]) (.cond (.tmp 8) (.seq (.reg [⟨some 9, .move (.tmp 3), none⟩,
    ⟨some 2, .assign (.tmp 9), none⟩]) .ret) .skip)) (.seq (.seq (.reg [⟨some 10, .fieldAddr 27 (.tmp 1) 1, none⟩,
    ⟨some 11, .load 3 (.tmp 10), none⟩,
    ⟨some 12, .binOp .lss 3 (.tmp 11) (.const (.int .i64 1)) 3, none⟩,
    ⟨some 13, .move (.tmp 12), none⟩,
    ⟨some 14, .fieldAddr 27 (.tmp 1) 1, some (13, false)⟩,
    ⟨some 15, .load 3 (.tmp 14), some (13, false)⟩,
    ⟨some 16, .binOp .gtr 3 (.tmp 15) (.const (.int .i64 64)) 3, some (13, false)⟩,
    ⟨some 17, .pick (.tmp 13) (.const (.bool true)) (.tmp 16), none⟩]) (.cond (.tmp 17) (.seq (.reg [⟨some 2, .assign (.const (.int .i64 4)), none⟩]) .ret) .skip)) (.seq (.reg [⟨some 18, .fieldAddr 27 (.tmp 1) 0, none⟩,
    ⟨some 19, .load 24 (.tmp 18), none⟩,
    ⟨some 20, .fieldAddr 27 (.tmp 1) 1, none⟩,
    ⟨some 21, .load 3 (.tmp 20), none⟩,
    ⟨some 22, .fieldAddr 27 (.tmp 1) 2, none⟩,
    ⟨some 23, .load 25 (.tmp 22), none⟩,
    ⟨some 24, .build 59 #[(0, .tmp 21), (1, .tmp 23)], none⟩,
    ⟨some 25, .call { callee := .value (.func 33), args := #[.tmp 19, .tmp 24], argTypes := #[24, 59] }, none⟩,
    ⟨some 2, .assign (.tmp 25), none⟩]) .ret))))
theorem at15 {args : List AV} {H : AH} {Q : AV → AH → Prop} (hl : args.length ≤ 26) (h : swp Try.prog s15 (fin Try.prog [.tmp 2] Q) (env0 args) H) : AC Try.prog 15 args H Q :=
  AC.of (fun _ => []) Try.func15 rfl (by kernel_rfl) mixed (by kernel_rfl) (by kernel_rfl) rfl hl h
/-! ### function 16: codewright/codewrightref11.IsSubset -/
def pl16 : Nat → Plan
  | 6 => [(0, []), (1, []), (2, []), (3, []), (4, []), (5, []), (6, []), (7, []), (8, []), (9, []), (10, []), (11, []), (12, []), (13, [])]
  | _ => []
def s16 : SC :=
  .seq (.reg [⟨some 4, .assign (.const (.bool false)), none⟩]) (.seq (.seq (.reg [⟨some 5, .assign (.const (.int .i64 0)), none⟩]) (.block 0 (.loop (.seq (.seq (.reg [⟨some 6, .move (.tmp 5), none⟩,
    ⟨some 7, .move (.tmp 1), none⟩,
    ⟨some 8, .call { callee := .builtin .len, args := #[.tmp 7], argTypes := #[22] }, none⟩,
    ⟨some 9, .binOp .lss 3 (.tmp 6) (.tmp 8) 3, none⟩]) (.cond (.tmp 9) .skip (.exit 0))) (.seq (.block 1 (.seq (.seq (.reg [⟨some 12, .move (.tmp 1), none⟩,
    ⟨some 13, .move (.tmp 5), none⟩,
    ⟨some 14, .indexAddr 22 (.tmp 12) (.tmp 13), none⟩,
    ⟨some 15, .load 3 (.tmp 14), none⟩,
    ⟨some 16, .binOp .lss 3 (.tmp 15) (.const (.int .i64 0)) 3, none⟩,
    ⟨some 17, .move (.tmp 16), none⟩,
    ⟨some 18, .move (.tmp 1), some (17, false)⟩,
    ⟨some 19, .move (.tmp 5), some (17, false)⟩,
    ⟨some 20, .indexAddr 22 (.tmp 18) (.tmp 19), some (17, false)⟩,
    ⟨some 21, .load 3 (.tmp 20), some (17, false)⟩,
    ⟨some 22, .move (.tmp 0), some (17, false)⟩,
    ⟨some 23, .binOp .geq 3 (.tmp 21) (.tmp 22) 3, some (17, false)⟩,
    ⟨some 24, .pick (.tmp 17) (.const (.bool true)) (.tmp 23), none⟩]) (.cond (.tmp 24) (.seq (.reg [⟨some 4, .assign (.const (.bool false)), none⟩]) .ret) .skip)) (.seq (.draw [(0, [], ⟨some 25, .move (.tmp 5), none⟩),
    (1, [], ⟨some 26, .binOp .gtr 3 (.tmp 25) (.const (.int .i64 0)) 3, none⟩),
    (2, [], ⟨some 27, .move (.tmp 26), none⟩),
    (3, [], ⟨some 28, .move (.tmp 1), some (27, true)⟩),
    (4, [], ⟨some 29, .move (.tmp 5), some (27, true)⟩),
    (5, [], ⟨some 30, .indexAddr 22 (.tmp 28) (.tmp 29), some (27, true)⟩),
    (6, [], ⟨some 31, .load 3 (.tmp 30), some (27, true)⟩),
    (7, [], ⟨some 32, .move (.tmp 1), some (27, true)⟩),
    (8, [], ⟨some 33, .move (.tmp 5), some (27, true)⟩),
    (9, [], ⟨some 34, .binOp .sub 3 (.tmp 33) (.const (.int .i64 1)) 3, some (27, true)⟩),
    (10, [], ⟨some 35, .indexAddr 22 (.tmp 32) (.tmp 34), some (27, true)⟩),
    (11, [], ⟨some 36, .load 3 (.tmp 35), some (27, true)⟩),
    (12, [], ⟨some 37, .binOp .leq 3 (.tmp 31) (.tmp 36) 3, some (27, true)⟩),
    (13, [], ⟨some 38, .pick (.tmp 27) (.tmp 37) (.const (.bool false)), none⟩)]) (.cond (.tmp 38) (.seq (.reg [⟨some 4, .assign (.const (.bool false)), none⟩]) .ret) .skip)))) (.reg [⟨some 10, .move (.tmp 5), none⟩,
    ⟨some 11, .binOp .add 3 (.tmp 10) (.const (.int .i64 1)) 3, none⟩,
    ⟨some 5, .assign (.tmp 11), none⟩])))))) (.seq (.reg [⟨some 4, .assign (.const (.bool true)), none⟩]) .ret))
theorem at16 {args : List AV} {H : AH} {Q : AV → AH → Prop} (hl : args.length ≤ 39) (h : swp Try.prog s16 (fin Try.prog [.tmp 4] Q) (env0 args) H) : AC Try.prog 16 args H Q :=
  AC.of (pl16) Try.func16 rfl (by kernel_rfl) mixed (by kernel_rfl) (by kernel_rfl) rfl hl h
/-! ### function 17: codewright/ordering.Greedy -/
def pl17 : Nat → Plan
  | 8 => [(0, []), (1, []), (2, []), (3, []), (4, [])]
  | 13 => [(0, []), (1, []), (2, []), (3, []), (4, []), (5, []), (6, [])]
  | _ => []
def s17 : SC :=
  .seq (.reg [⟨some 1, .box 27 (.tmp 0), none⟩,
    ⟨some 2, .assign (.const (.slice none 0 0)), none⟩,
    ⟨some 3, .assign (.const (.int .i64 0)), none⟩]) (.seq (.seq (.reg [⟨some 11, .load 27 (.tmp 1), none⟩,
    ⟨some 12, .call { callee := .value (.func 29), args := #[.tmp 11], argTypes := #[27] }, none⟩,
    ⟨some 4, .assign (.tmp 12), none⟩]) (.seq (.reg [⟨some 13, .move (.tmp 4), none⟩,
    ⟨some 14, .binOp .neq 28 (.tmp 13) (.const (.int .i64 0)) 28, none⟩]) (.cond (.tmp 14) (.seq (.reg [⟨some 15, .move (.tmp 4), none⟩,
    ⟨some 2, .assign (.const (.slice none 0 0)), none⟩,
    ⟨some 3, .assign (.tmp 15), none⟩]) .ret) .skip))) (.seq (.reg [⟨some 5, .assign (.const (.int .u64 0)), none⟩]) (.seq (.reg [⟨some 6, .assign (.const (.slice none 0 0)), none⟩]) (.seq (.seq (.reg [⟨some 16, .fieldAddr 27 (.tmp 1) 1, none⟩,
    ⟨some 17, .load 3 (.tmp 16), none⟩,
    ⟨some 18, .move (.const (.int .i64 0)), none⟩]) (.block 0 (.loop (.seq (.reg [⟨some 19, .binOp .lss 3 (.tmp 18) (.tmp 17) 3, none⟩]) (.seq (.cond (.tmp 19) .skip (.exit 0)) (.seq (.block 1 (.seq (.draw [(0, [], ⟨some 20, .fieldAddr 27 (.tmp 1) 1, none⟩),
    (1, [], ⟨some 21, .load 3 (.tmp 20), none⟩),
    (2, [], ⟨some 22, .binOp .add 3 (.tmp 21) (.const (.int .i64 1)) 3, none⟩),
    (3, [], ⟨some 7, .assign (.const (.int .i64 (-1))), none⟩),
    (4, [], ⟨some 8, .assign (.tmp 22), none⟩)]) (.seq (.seq (.reg [⟨some 23, .fieldAddr 27 (.tmp 1) 1, none⟩,
    ⟨some 24, .load 3 (.tmp 23), none⟩,
    ⟨some 25, .move (.const (.int .i64 0)), none⟩]) (.block 2 (.loop (.seq (.reg [⟨some 26, .binOp .lss 3 (.tmp 25) (.tmp 24) 3, none⟩]) (.seq (.cond (.tmp 26) .skip (.exit 2)) (.seq (.block 3 (.seq (.reg [⟨some 27, .move (.tmp 25), none⟩,
    ⟨some 9, .assign (.tmp 27), none⟩]) (.seq (.seq (.reg [⟨some 28, .move (.tmp 5), none⟩,
    ⟨some 29, .move (.tmp 9), none⟩,
    ⟨some 30, .binOp .shr 52 (.tmp 28) (.tmp 29) 3, none⟩,
    ⟨some 31, .binOp .and 52 (.tmp 30) (.const (.int .u64 1)) 52, none⟩,
    ⟨some 32, .binOp .eql 52 (.tmp 31) (.const (.int .u64 1)) 52, none⟩]) (.cond (.tmp 32) (.exit 3) .skip)) (.seq (.draw [(0, [], ⟨some 33, .load 27 (.tmp 1), none⟩),
    (1, [], ⟨some 34, .move (.tmp 5), none⟩),
    (2, [], ⟨some 35, .move (.tmp 9), none⟩),
    (3, [], ⟨some 36, .binOp .shl 52 (.const (.int .u64 1)) (.tmp 35) 3, none⟩),
    (4, [], ⟨some 37, .binOp .or 52 (.tmp 34) (.tmp 36) 52, none⟩),
    (5, [], ⟨some 38, .call { callee := .value (.func 30), args := #[.tmp 33, .tmp 37], argTypes := #[27, 52] }, none⟩),
    (6, [], ⟨some 10, .assign (.tmp 38), none⟩)]) (.seq (.reg [⟨some 39, .move (.tmp 10), none⟩,
    ⟨some 40, .move (.tmp 8), none⟩,
    ⟨some 41, .binOp .lss 3 (.tmp 39) (.tmp 40) 3, none⟩]) (.cond (.tmp 41) (.reg [⟨some 42, .move (.tmp 9), none⟩,
    ⟨some 43, .move (.tmp 10), none⟩,
    ⟨some 7, .assign (.tmp 42), none⟩,
    ⟨some 8, .assign (.tmp 43), none⟩]) .skip)))))) (.reg [⟨some 44, .binOp .add 3 (.tmp 25) (.const (.int .i64 1)) 3, none⟩,
    ⟨some 25, .move (.tmp 44), none⟩]))))))) (.seq (.reg [⟨some 45, .move (.tmp 6), none⟩,
    ⟨some 46, .move (.tmp 7), none⟩,
    ⟨some 47, .buildSlice 22 1 #[(0, .tmp 46)], none⟩,
    ⟨some 48, .call { callee := .builtin .append, args := #[.tmp 45, .tmp 47], argTypes := #[22, 22] }, none⟩,
    ⟨some 6, .assign (.tmp 48), none⟩]) (.reg [⟨some 49, .move (.tmp 5), none⟩,
    ⟨some 50, .move (.tmp 7), none⟩,
    ⟨some 51, .binOp .shl 52 (.const (.int .u64 1)) (.tmp 50) 3, none⟩,
    ⟨some 52, .binOp .or 52 (.tmp 49) (.tmp 51) 52, none⟩,
    ⟨some 5, .assign (.tmp 52), none⟩]))))) (.reg [⟨some 53, .binOp .add 3 (.tmp 18) (.const (.int .i64 1)) 3, none⟩,
    ⟨some 18, .move (.tmp 53), none⟩]))))))) (.seq (.reg [⟨some 54, .move (.tmp 6), none⟩,
    ⟨some 2, .assign (.tmp 54), none⟩,
    ⟨some 3, .assign (.const (.int .i64 0)), none⟩]) .ret)))))
theorem at17 {args : List AV} {H : AH} {Q : AV → AH → Prop} (hl : args.length ≤ 55) (h : swp Try.prog s17 (fin Try.prog [.tmp 2, .tmp 3] Q) (env0 args) H) : AC Try.prog 17 args H Q :=
  AC.of (pl17) Try.func17 rfl (by kernel_rfl) mixed (by kernel_rfl) (by kernel_rfl) rfl hl h
/-! ### function 18: codewright/codewrightref11.Same -/
def s18 : SC :=
  .seq (.reg [⟨some 4, .assign (.const (.bool false)), none⟩]) (.seq (.reg [⟨some 5, .move (.tmp 0), none⟩,
    ⟨some 6, .move (.tmp 1), none⟩,
    ⟨some 7, .call { callee := .value (.func 34), args := #[.tmp 5, .tmp 6], argTypes := #[22, 22] }, none⟩,
    ⟨some 8, .binOp .eql 3 (.tmp 7) (.const (.int .i64 0)) 3, none⟩,
    ⟨some 4, .assign (.tmp 8), none⟩]) .ret)
theorem at18 {args : List AV} {H : AH} {Q : AV → AH → Prop} (hl : args.length ≤ 9) (h : swp Try.prog s18 (fin Try.prog [.tmp 4] Q) (env0 args) H) : AC Try.prog 18 args H Q :=
  AC.of (fun _ => []) Try.func18 rfl (by kernel_rfl) mixed (by kernel_rfl) (by kernel_rfl) rfl hl h
/-! ### function 19: codewright/codewrightref48.Greedy -/
def pl19 : Nat → Plan
  | 9 => [(0, []), (2, []), (4, []), (5, []), (6, []), (7, []), (1, []), (3, [0, 7]), (8, []), (9, [0]), (10, []), (11, [])]
  | _ => []
def s19 : SC :=
  .seq (.reg [⟨some 1, .box 27 (.tmp 0), none⟩,
    ⟨some 2, .assign (.const (.slice none 0 0)), none⟩]) (.seq (.reg [⟨some 9, .buildSlice 22 0 #[], none⟩,
    ⟨some 3, .assign (.tmp 9), none⟩]) (.seq (.block 0 (.loop (.seq (.seq (.reg [⟨some 10, .move (.tmp 3), none⟩,
    ⟨some 11, .call { callee := .builtin .len, args := #[.tmp 10], argTypes := #[22] }, none⟩,
    ⟨some 12, .fieldAddr 27 (.tmp 1) 1, none⟩,
    ⟨some 13, .load 3 (.tmp 12), none⟩,
    ⟨some 14, .binOp .lss 3 (.tmp 11) (.tmp 13) 3, none⟩]) (.cond (.tmp 14) .skip (.exit 0))) (.block 1 (.seq (.reg [⟨some 15, .fieldAddr 27 (.tmp 1) 1, none⟩,
    ⟨some 16, .load 3 (.tmp 15), none⟩,
    ⟨some 17, .move (.tmp 3), none⟩,
    ⟨some 18, .call { callee := .value (.func 14), args := #[.tmp 16, .tmp 17], argTypes := #[3, 22] }, none⟩,
    ⟨some 4, .assign (.tmp 18), none⟩]) (.seq (.reg [⟨some 19, .move (.tmp 4), none⟩,
    ⟨some 20, .indexAddr 22 (.tmp 19) (.const (.int .i64 0)), none⟩,
    ⟨some 21, .load 3 (.tmp 20), none⟩,
    ⟨some 5, .assign (.tmp 21), none⟩]) (.seq (.reg [⟨some 22, .fieldAddr 27 (.tmp 1) 1, none⟩,
    ⟨some 23, .load 3 (.tmp 22), none⟩,
    ⟨some 24, .binOp .add 3 (.tmp 23) (.const (.int .i64 1)) 3, none⟩,
    ⟨some 6, .assign (.tmp 24), none⟩]) (.seq (.seq (.reg [⟨some 7, .assign (.const (.int .i64 0)), none⟩]) (.block 2 (.loop (.seq (.seq (.reg [⟨some 25, .move (.tmp 7), none⟩,
    ⟨some 26, .move (.tmp 4), none⟩,
    ⟨some 27, .call { callee := .builtin .len, args := #[.tmp 26], argTypes := #[22] }, none⟩,
    ⟨some 28, .binOp .lss 3 (.tmp 25) (.tmp 27) 3, none⟩]) (.cond (.tmp 28) .skip (.exit 2))) (.seq (.block 3 (.seq (.draw [(0, [], ⟨some 31, .load 27 (.tmp 1), none⟩),
    (2, [], ⟨some 33, .move (.tmp 3), none⟩),
    (4, [], ⟨some 35, .move (.tmp 4), none⟩),
    (5, [], ⟨some 36, .move (.tmp 7), none⟩),
    (6, [], ⟨some 37, .indexAddr 22 (.tmp 35) (.tmp 36), none⟩),
    (7, [], ⟨some 38, .load 3 (.tmp 37), none⟩),
    (1, [], ⟨some 32, .buildSlice 22 0 #[], none⟩),
    (3, [0, 7], ⟨some 34, .call { callee := .builtin .append, args := #[.tmp 32, .tmp 33], argTypes := #[22, 22] }, none⟩),
    (8, [], ⟨some 39, .buildSlice 22 1 #[(0, .tmp 38)], none⟩),
    (9, [0], ⟨some 40, .call { callee := .builtin .append, args := #[.tmp 34, .tmp 39], argTypes := #[22, 22] }, none⟩),
    (10, [], ⟨some 41, .call { callee := .value (.func 31), args := #[.tmp 31, .tmp 40], argTypes := #[27, 22] }, none⟩),
    (11, [], ⟨some 8, .assign (.tmp 41), none⟩)]) (.seq (.reg [⟨some 42, .move (.tmp 8), none⟩,
    ⟨some 43, .move (.tmp 6), none⟩,
    ⟨some 44, .binOp .lss 3 (.tmp 42) (.tmp 43) 3, none⟩]) (.cond (.tmp 44) (.seq (.reg [⟨some 45, .move (.tmp 8), none⟩,
    ⟨some 6, .assign (.tmp 45), none⟩]) (.reg [⟨some 46, .move (.tmp 4), none⟩,
    ⟨some 47, .move (.tmp 7), none⟩,
    ⟨some 48, .indexAddr 22 (.tmp 46) (.tmp 47), none⟩,
    ⟨some 49, .load 3 (.tmp 48), none⟩,
    ⟨some 5, .assign (.tmp 49), none⟩])) .skip)))) (.reg [⟨some 29, .move (.tmp 7), none⟩,
    ⟨some 30, .binOp .add 3 (.tmp 29) (.const (.int .i64 1)) 3, none⟩,
    ⟨some 7, .assign (.tmp 30), none⟩])))))) (.reg [⟨some 50, .move (.tmp 3), none⟩,
    ⟨some 51, .move (.tmp 5), none⟩,
    ⟨some 52, .buildSlice 22 1 #[(0, .tmp 51)], none⟩,
    ⟨some 53, .call { callee := .builtin .append, args := #[.tmp 50, .tmp 52], argTypes := #[22, 22] }, none⟩,
    ⟨some 3, .assign (.tmp 53), none⟩]))))))))) (.seq (.reg [⟨some 54, .move (.tmp 3), none⟩,
    ⟨some 2, .assign (.tmp 54), none⟩]) .ret)))
theorem at19 {args : List AV} {H : AH} {Q : AV → AH → Prop} (hl : args.length ≤ 55) (h : swp Try.prog s19 (fin Try.prog [.tmp 2] Q) (env0 args) H) : AC Try.prog 19 args H Q :=
  AC.of (pl19) Try.func19 rfl (by kernel_rfl) mixed (by kernel_rfl) (by kernel_rfl) rfl hl h
/-! ### function 20: codewright/codewrightlaw48.short -/
def s20 : SC :=
  .seq (.reg [⟨some 1, .box 27 (.tmp 0), none⟩,
    ⟨some 2, .assign (.const (.bool false)), none⟩]) (.seq (.reg [⟨some 3, .load 27 (.tmp 1), none⟩,
    ⟨some 4, .call { callee := .value (.func 15), args := #[.tmp 3], argTypes := #[27] }, none⟩,
    ⟨some 5, .binOp .neq 28 (.tmp 4) (.const (.int .i64 0)) 28, none⟩,
    ⟨some 6, .move (.tmp 5), none⟩,
    ⟨some 7, .fieldAddr 27 (.tmp 1) 1, some (6, false)⟩,
    ⟨some 8, .load 3 (.tmp 7), some (6, false)⟩,
    ⟨some 9, .binOp .leq 3 (.tmp 8) (.const (.int .i64 8)) 3, some (6, false)⟩,
    ⟨some 10, .pick (.tmp 6) (.const (.bool true)) (.tmp 9), none⟩,
    ⟨some 11, .move (.tmp 10), none⟩,
    ⟨some 12, .fieldAddr 27 (.tmp 1) 1, some (11, false)⟩,
    ⟨some 13, .load 3 (.tmp 12), some (11, false)⟩,
    ⟨some 14, .binOp .gtr 3 (.tmp 13) (.const (.int .i64 12)) 3, some (11, false)⟩,
    ⟨some 15, .pick (.tmp 11) (.const (.bool true)) (.tmp 14), none⟩,
    ⟨some 2, .assign (.tmp 15), none⟩]) .ret)
theorem at20 {args : List AV} {H : AH} {Q : AV → AH → Prop} (hl : args.length ≤ 16) (h : swp Try.prog s20 (fin Try.prog [.tmp 2] Q) (env0 args) H) : AC Try.prog 20 args H Q :=
  AC.of (fun _ => []) Try.func20 rfl (by kernel_rfl) mixed (by kernel_rfl) (by kernel_rfl) rfl hl h
/-! ### function 21: codewright/ordering.Check -/
def pl21 : Nat → Plan
  | 12 => [(0, []), (1, []), (2, []), (3, []), (4, []), (5, []), (6, []), (7, []), (8, []), (9, []), (10, []), (11, []), (12, []), (13, [10]), (14, []), (15, [])]
  | _ => []
def s21 : SC :=
  .seq (.reg [⟨some 3, .box 27 (.tmp 0), none⟩,
    ⟨some 6, .assign (.const (.int .i64 0)), none⟩]) (.seq (.seq (.reg [⟨some 11, .load 27 (.tmp 3), none⟩,
    ⟨some 12, .call { callee := .value (.func 29), args := #[.tmp 11], argTypes := #[27] }, none⟩,
    ⟨some 7, .assign (.tmp 12), none⟩]) (.seq (.reg [⟨some 13, .move (.tmp 7), none⟩,
    ⟨some 14, .binOp .neq 28 (.tmp 13) (.const (.int .i64 0)) 28, none⟩]) (.cond (.tmp 14) (.seq (.reg [⟨some 15, .move (.tmp 7), none⟩,
    ⟨some 6, .assign (.tmp 15), none⟩]) .ret) .skip))) (.seq (.seq (.reg [⟨some 16, .fieldAddr 27 (.tmp 3) 1, none⟩,
    ⟨some 17, .load 3 (.tmp 16), none⟩,
    ⟨some 18, .binOp .gtr 3 (.tmp 17) (.const (.int .i64 12)) 3, none⟩]) (.cond (.tmp 18) (.seq (.reg [⟨some 6, .assign (.const (.int .i64 8)), none⟩]) .ret) .skip)) (.seq (.seq (.reg [⟨some 19, .load 27 (.tmp 3), none⟩,
    ⟨some 20, .move (.tmp 1), none⟩,
    ⟨some 21, .call { callee := .value (.func 35), args := #[.tmp 19, .tmp 20], argTypes := #[27, 22] }, none⟩,
    ⟨some 8, .assign (.tmp 21), none⟩]) (.seq (.reg [⟨some 22, .move (.tmp 8), none⟩,
    ⟨some 23, .binOp .neq 28 (.tmp 22) (.const (.int .i64 0)) 28, none⟩]) (.cond (.tmp 23) (.seq (.reg [⟨some 24, .move (.tmp 8), none⟩,
    ⟨some 6, .assign (.tmp 24), none⟩]) .ret) .skip))) (.seq (.seq (.reg [⟨some 25, .move (.tmp 2), none⟩,
    ⟨some 26, .call { callee := .builtin .len, args := #[.tmp 25], argTypes := #[22] }, none⟩,
    ⟨some 27, .fieldAddr 27 (.tmp 3) 1, none⟩,
    ⟨some 28, .load 3 (.tmp 27), none⟩,
    ⟨some 29, .binOp .shl 3 (.const (.int .i64 1)) (.tmp 28) 3, none⟩,
    ⟨some 30, .binOp .neq 3 (.tmp 26) (.tmp 29) 3, none⟩]) (.cond (.tmp 30) (.seq (.reg [⟨some 6, .assign (.const (.int .i64 13)), none⟩]) .ret) .skip)) (.seq (.seq (.reg [⟨some 32, .load 27 (.tmp 3), none⟩,
    ⟨some 33, .call { callee := .value (.func 36), args := #[.tmp 32], argTypes := #[27] }, none⟩,
    ⟨some 31, .move (.tmp 33), none⟩,
    ⟨some 34, .extract (.tmp 31) 0, none⟩,
    ⟨some 35, .extract (.tmp 31) 1, none⟩,
    ⟨some 9, .assign (.tmp 34), none⟩,
    ⟨some 10, .assign (.tmp 35), none⟩]) (.seq (.draw [(0, [], ⟨some 36, .move (.tmp 2), none⟩),
    (1, [], ⟨some 37, .move (.tmp 10), none⟩),
    (2, [], ⟨some 38, .call { callee := .value (.func 37), args := #[.tmp 36, .tmp 37], argTypes := #[22, 22] }, none⟩),
    (3, [], ⟨some 39, .unOp .not 4 (.tmp 38), none⟩),
    (4, [], ⟨some 40, .move (.tmp 39), none⟩),
    (5, [], ⟨some 41, .move (.tmp 2), some (40, false)⟩),
    (6, [], ⟨some 42, .move (.tmp 2), some (40, false)⟩),
    (7, [], ⟨some 43, .call { callee := .builtin .len, args := #[.tmp 42], argTypes := #[22] }, some (40, false)⟩),
    (8, [], ⟨some 44, .binOp .sub 3 (.tmp 43) (.const (.int .i64 1)) 3, some (40, false)⟩),
    (9, [], ⟨some 45, .indexAddr 22 (.tmp 41) (.tmp 44), some (40, false)⟩),
    (10, [], ⟨some 46, .load 3 (.tmp 45), some (40, false)⟩),
    (11, [], ⟨some 47, .load 27 (.tmp 3), some (40, false)⟩),
    (12, [], ⟨some 48, .move (.tmp 1), some (40, false)⟩),
    (13, [10], ⟨some 49, .call { callee := .value (.func 38), args := #[.tmp 47, .tmp 48], argTypes := #[27, 22] }, some (40, false)⟩),
    (14, [], ⟨some 50, .binOp .neq 3 (.tmp 46) (.tmp 49) 3, some (40, false)⟩),
    (15, [], ⟨some 51, .pick (.tmp 40) (.const (.bool true)) (.tmp 50), none⟩)]) (.cond (.tmp 51) (.seq (.reg [⟨some 6, .assign (.const (.int .i64 13)), none⟩]) .ret) .skip))) (.seq (.reg [⟨some 6, .assign (.const (.int .i64 0)), none⟩]) .ret))))))
theorem at21 {args : List AV} {H : AH} {Q : AV → AH → Prop} (hl : args.length ≤ 52) (h : swp Try.prog s21 (fin Try.prog [.tmp 6] Q) (env0 args) H) : AC Try.prog 21 args H Q :=
  AC.of (pl21) Try.func21 rfl (by kernel_rfl) mixed (by kernel_rfl) (by kernel_rfl) rfl hl h
/-! ### function 22: codewright/codewrightref48.Check -/
def s22 : SC :=
  .seq (.reg [⟨some 3, .box 27 (.tmp 0), none⟩,
    ⟨some 6, .assign (.const (.int .i64 0)), none⟩]) (.seq (.reg [⟨some 10, .load 27 (.tmp 3), none⟩,
    ⟨some 11, .call { callee := .value (.func 15), args := #[.tmp 10], argTypes := #[27] }, none⟩,
    ⟨some 7, .assign (.tmp 11), none⟩]) (.seq (.seq (.reg [⟨some 12, .move (.tmp 7), none⟩,
    ⟨some 13, .binOp .neq 28 (.tmp 12) (.const (.int .i64 0)) 28, none⟩]) (.cond (.tmp 13) (.seq (.reg [⟨some 14, .move (.tmp 7), none⟩,
    ⟨some 6, .assign (.tmp 14), none⟩]) .ret) .skip)) (.seq (.seq (.reg [⟨some 15, .fieldAddr 27 (.tmp 3) 1, none⟩,
    ⟨some 16, .load 3 (.tmp 15), none⟩,
    ⟨some 17, .binOp .gtr 3 (.tmp 16) (.const (.int .i64 12)) 3, none⟩]) (.cond (.tmp 17) (.seq (.reg [⟨some 6, .assign (.const (.int .i64 8)), none⟩]) .ret) .skip)) (.seq (.seq (.reg [⟨some 18, .fieldAddr 27 (.tmp 3) 1, none⟩,
    ⟨some 19, .load 3 (.tmp 18), none⟩,
    ⟨some 20, .move (.tmp 1), none⟩,
    ⟨some 21, .call { callee := .value (.func 39), args := #[.tmp 19, .tmp 20], argTypes := #[3, 22] }, none⟩,
    ⟨some 22, .unOp .not 4 (.tmp 21), none⟩]) (.cond (.tmp 22) (.seq (.reg [⟨some 6, .assign (.const (.int .i64 5)), none⟩]) .ret) .skip)) (.seq (.reg [⟨some 24, .load 27 (.tmp 3), none⟩,
    ⟨some 25, .move (.tmp 1), none⟩,
    ⟨some 26, .call { callee := .value (.func 40), args := #[.tmp 24, .tmp 25], argTypes := #[27, 22] }, none⟩,
    ⟨some 23, .move (.tmp 26), none⟩,
    ⟨some 27, .extract (.tmp 23) 0, none⟩,
    ⟨some 28, .extract (.tmp 23) 1, none⟩,
    ⟨some 8, .assign (.tmp 27), none⟩,
    ⟨some 9, .assign (.tmp 28), none⟩]) (.seq (.seq (.reg [⟨some 29, .move (.tmp 2), none⟩,
    ⟨some 30, .load 27 (.tmp 3), none⟩,
    ⟨some 31, .call { callee := .value (.func 28), args := #[.tmp 30], argTypes := #[27] }, none⟩,
    ⟨some 32, .call { callee := .value (.func 18), args := #[.tmp 29, .tmp 31], argTypes := #[22, 22] }, none⟩,
    ⟨some 33, .unOp .not 4 (.tmp 32), none⟩,
    ⟨some 34, .move (.tmp 33), none⟩,
    ⟨some 35, .move (.tmp 2), some (34, false)⟩,
    ⟨some 36, .move (.tmp 2), some (34, false)⟩,
    ⟨some 37, .call { callee := .builtin .len, args := #[.tmp 36], argTypes := #[22] }, some (34, false)⟩,
    ⟨some 38, .binOp .sub 3 (.tmp 37) (.const (.int .i64 1)) 3, some (34, false)⟩,
    ⟨some 39, .indexAddr 22 (.tmp 35) (.tmp 38), some (34, false)⟩,
    ⟨some 40, .load 3 (.tmp 39), some (34, false)⟩,
    ⟨some 41, .move (.tmp 8), some (34, false)⟩,
    ⟨some 42, .binOp .neq 3 (.tmp 40) (.tmp 41) 3, some (34, false)⟩,
    ⟨some 43, .pick (.tmp 34) (.const (.bool true)) (.tmp 42), none⟩]) (.cond (.tmp 43) (.seq (.reg [⟨some 6, .assign (.const (.int .i64 13)), none⟩]) .ret) .skip)) (.seq (.reg [⟨some 6, .assign (.const (.int .i64 0)), none⟩]) .ret)))))))
theorem at22 {args : List AV} {H : AH} {Q : AV → AH → Prop} (hl : args.length ≤ 44) (h : swp Try.prog s22 (fin Try.prog [.tmp 6] Q) (env0 args) H) : AC Try.prog 22 args H Q :=
  AC.of (fun _ => []) Try.func22 rfl (by kernel_rfl) mixed (by kernel_rfl) (by kernel_rfl) rfl hl h
/-! ### function 23: codewright/codewrightref48.Order -/
def s23 : SC :=
  .seq (.reg [⟨some 2, .box 27 (.tmp 0), none⟩,
    ⟨some 4, .assign (.const (.int .i64 0)), none⟩]) (.seq (.reg [⟨some 6, .load 27 (.tmp 2), none⟩,
    ⟨some 7, .call { callee := .value (.func 15), args := #[.tmp 6], argTypes := #[27] }, none⟩,
    ⟨some 5, .assign (.tmp 7), none⟩]) (.seq (.seq (.reg [⟨some 8, .move (.tmp 5), none⟩,
    ⟨some 9, .binOp .eql 28 (.tmp 8) (.const (.int .i64 0)) 28, none⟩,
    ⟨some 10, .move (.tmp 9), none⟩,
    ⟨some 11, .fieldAddr 27 (.tmp 2) 1, some (10, true)⟩,
    ⟨some 12, .load 3 (.tmp 11), some (10, true)⟩,
    ⟨some 13, .move (.tmp 1), some (10, true)⟩,
    ⟨some 14, .call { callee := .value (.func 39), args := #[.tmp 12, .tmp 13], argTypes := #[3, 22] }, some (10, true)⟩,
    ⟨some 15, .unOp .not 4 (.tmp 14), some (10, true)⟩,
    ⟨some 16, .pick (.tmp 10) (.tmp 15) (.const (.bool false)), none⟩]) (.cond (.tmp 16) (.reg [⟨some 5, .assign (.const (.int .i64 5)), none⟩]) .skip)) (.seq (.reg [⟨some 17, .move (.tmp 5), none⟩,
    ⟨some 4, .assign (.tmp 17), none⟩]) .ret)))
theorem at23 {args : List AV} {H : AH} {Q : AV → AH → Prop} (hl : args.length ≤ 18) (h : swp Try.prog s23 (fin Try.prog [.tmp 4] Q) (env0 args) H) : AC Try.prog 23 args H Q :=
  AC.of (fun _ => []) Try.func23 rfl (by kernel_rfl) mixed (by kernel_rfl) (by kernel_rfl) rfl hl h
/-! ### function 24: codewright/ordering.Width -/
def s24 : SC :=
  .seq (.reg [⟨some 2, .box 27 (.tmp 0), none⟩,
    ⟨some 4, .assign (.const (.int .i64 0)), none⟩,
    ⟨some 5, .assign (.const (.int .i64 0)), none⟩]) (.seq (.seq (.reg [⟨some 7, .load 27 (.tmp 2), none⟩,
    ⟨some 8, .move (.tmp 1), none⟩,
    ⟨some 9, .call { callee := .value (.func 35), args := #[.tmp 7, .tmp 8], argTypes := #[27, 22] }, none⟩,
    ⟨some 6, .assign (.tmp 9), none⟩]) (.seq (.reg [⟨some 10, .move (.tmp 6), none⟩,
    ⟨some 11, .binOp .neq 28 (.tmp 10) (.const (.int .i64 0)) 28, none⟩]) (.cond (.tmp 11) (.seq (.reg [⟨some 12, .move (.tmp 6), none⟩,
    ⟨some 4, .assign (.const (.int .i64 0)), none⟩,
    ⟨some 5, .assign (.tmp 12), none⟩]) .ret) .skip))) (.seq (.reg [⟨some 13, .load 27 (.tmp 2), none⟩,
    ⟨some 14, .move (.tmp 1), none⟩,
    ⟨some 15, .call { callee := .value (.func 38), args := #[.tmp 13, .tmp 14], argTypes := #[27, 22] }, none⟩,
    ⟨some 4, .assign (.tmp 15), none⟩,
    ⟨some 5, .assign (.const (.int .i64 0)), none⟩]) .ret))
theorem at24 {args : List AV} {H : AH} {Q : AV → AH → Prop} (hl : args.length ≤ 16) (h : swp Try.prog s24 (fin Try.prog [.tmp 4, .tmp 5] Q) (env0 args) H) : AC Try.prog 24 args H Q :=
  AC.of (fun _ => []) Try.func24 rfl (by kernel_rfl) mixed (by kernel_rfl) (by kernel_rfl) rfl hl h
/-! ### function 25: codewright/code.Dual -/
def pl25 : Nat → Plan
  | 4 => [(0, []), (1, []), (2, []), (3, [1]), (4, []), (5, []), (6, []), (7, []), (8, []), (9, []), (10, [])]
  | _ => []
def s25 : SC :=
  .seq (.reg [⟨some 1, .box 27 (.tmp 0), none⟩,
    ⟨some 2, .alloc 27, none⟩,
    ⟨some 3, .assign (.const (.int .i64 0)), none⟩]) (.seq (.seq (.reg [⟨some 7, .load 27 (.tmp 1), none⟩,
    ⟨some 8, .call { callee := .value (.func 29), args := #[.tmp 7], argTypes := #[27] }, none⟩,
    ⟨some 4, .assign (.tmp 8), none⟩]) (.seq (.reg [⟨some 9, .move (.tmp 4), none⟩,
    ⟨some 10, .binOp .neq 28 (.tmp 9) (.const (.int .i64 0)) 28, none⟩]) (.cond (.tmp 10) (.seq (.reg [⟨some 11, .build 27 #[], none⟩,
    ⟨some 12, .move (.tmp 4), none⟩,
    ⟨none, .store 27 (.tmp 2) (.tmp 11), none⟩,
    ⟨some 3, .assign (.tmp 12), none⟩]) .ret) .skip))) (.seq (.draw [(0, [], ⟨some 14, .fieldAddr 27 (.tmp 1) 0, none⟩),
    (1, [], ⟨some 15, .load 24 (.tmp 14), none⟩),
    (2, [], ⟨some 16, .load 27 (.tmp 1), none⟩),
    (3, [1], ⟨some 17, .call { callee := .value (.func 42), args := #[.tmp 16], argTypes := #[27] }, none⟩),
    (4, [], ⟨some 18, .call { callee := .value (.func 41), args := #[.tmp 15, .tmp 17], argTypes := #[24, 59] }, none⟩),
    (5, [], ⟨some 13, .move (.tmp 18), none⟩),
    (6, [], ⟨some 19, .extract (.tmp 13) 0, none⟩),
    (7, [], ⟨some 20, .extract (.tmp 13) 1, none⟩),
    (8, [], ⟨some 5, .alloc 59, none⟩),
    (9, [], ⟨none, .store 59 (.tmp 5) (.tmp 19), none⟩),
    (10, [], ⟨some 6, .assign (.tmp 20), none⟩)]) (.seq (.reg [⟨some 21, .fieldAddr 27 (.tmp 1) 0, none⟩,
    ⟨some 22, .load 24 (.tmp 21), none⟩,
    ⟨some 23, .load 59 (.tmp 5), none⟩,
    ⟨some 24, .move (.tmp 6), none⟩,
    ⟨some 25, .call { callee := .value (.func 43), args := #[.tmp 22, .tmp 23, .tmp 24], argTypes := #[24, 59, 28] }, none⟩,
    ⟨some 26, .extract (.tmp 25) 0, none⟩,
    ⟨some 27, .extract (.tmp 25) 1, none⟩,
    ⟨none, .store 27 (.tmp 2) (.tmp 26), none⟩,
    ⟨some 3, .assign (.tmp 27), none⟩]) .ret)))
theorem at25 {args : List AV} {H : AH} {Q : AV → AH → Prop} (hl : args.length ≤ 28) (h : swp Try.prog s25 (fin Try.prog [.cell 2 27, .tmp 3] Q) (env0 args) H) : AC Try.prog 25 args H Q :=
  AC.of (pl25) Try.func25 rfl (by kernel_rfl) mixed (by kernel_rfl) (by kernel_rfl) rfl hl h
/-! ### function 26: codewright/ordering.Best -/
def s26 : SC :=
  .seq (.reg [⟨some 1, .box 27 (.tmp 0), none⟩,
    ⟨some 2, .assign (.const (.slice none 0 0)), none⟩,
    ⟨some 3, .assign (.const (.slice none 0 0)), none⟩,
    ⟨some 4, .assign (.const (.int .i64 0)), none⟩]) (.seq (.seq (.reg [⟨some 14, .load 27 (.tmp 1), none⟩,
    ⟨some 15, .call { callee := .value (.func 29), args := #[.tmp 14], argTypes := #[27] }, none⟩,
    ⟨some 5, .assign (.tmp 15), none⟩]) (.seq (.reg [⟨some 16, .move (.tmp 5), none⟩,
    ⟨some 17, .binOp .neq 28 (.tmp 16) (.const (.int .i64 0)) 28, none⟩]) (.cond (.tmp 17) (.seq (.reg [⟨some 18, .move (.tmp 5), none⟩,
    ⟨some 2, .assign (.const (.slice none 0 0)), none⟩,
    ⟨some 3, .assign (.const (.slice none 0 0)), none⟩,
    ⟨some 4, .assign (.tmp 18), none⟩]) .ret) .skip))) (.seq (.seq (.reg [⟨some 19, .fieldAddr 27 (.tmp 1) 1, none⟩,
    ⟨some 20, .load 3 (.tmp 19), none⟩,
    ⟨some 21, .binOp .gtr 3 (.tmp 20) (.const (.int .i64 12)) 3, none⟩]) (.cond (.tmp 21) (.seq (.reg [⟨some 2, .assign (.const (.slice none 0 0)), none⟩,
    ⟨some 3, .assign (.const (.slice none 0 0)), none⟩,
    ⟨some 4, .assign (.const (.int .i64 8)), none⟩]) .ret) .skip)) (.seq (.reg [⟨some 23, .load 27 (.tmp 1), none⟩,
    ⟨some 24, .call { callee := .value (.func 36), args := #[.tmp 23], argTypes := #[27] }, none⟩,
    ⟨some 22, .move (.tmp 24), none⟩,
    ⟨some 25, .extract (.tmp 22) 0, none⟩,
    ⟨some 26, .extract (.tmp 22) 1, none⟩,
    ⟨some 6, .assign (.tmp 25), none⟩,
    ⟨some 3, .assign (.tmp 26), none⟩]) (.seq (.reg [⟨some 27, .move (.tmp 3), none⟩,
    ⟨some 28, .call { callee := .builtin .len, args := #[.tmp 27], argTypes := #[22] }, none⟩,
    ⟨some 29, .binOp .sub 3 (.tmp 28) (.const (.int .i64 1)) 3, none⟩,
    ⟨some 7, .assign (.tmp 29), none⟩]) (.seq (.reg [⟨some 30, .move (.tmp 3), none⟩,
    ⟨some 31, .move (.tmp 7), none⟩,
    ⟨some 32, .indexAddr 22 (.tmp 30) (.tmp 31), none⟩,
    ⟨some 33, .load 3 (.tmp 32), none⟩,
    ⟨some 8, .assign (.tmp 33), none⟩]) (.seq (.reg [⟨some 34, .move (.tmp 7), none⟩,
    ⟨some 35, .binOp .add 3 (.tmp 34) (.const (.int .i64 1)) 3, none⟩,
    ⟨some 36, .makeSlice 55 (.tmp 35) (.tmp 35), none⟩,
    ⟨some 9, .assign (.tmp 36), none⟩]) (.seq (.reg [⟨some 37, .move (.tmp 9), none⟩,
    ⟨some 38, .move (.tmp 7), none⟩,
    ⟨some 39, .move (.tmp 6), none⟩,
    ⟨some 40, .move (.tmp 7), none⟩,
    ⟨some 41, .indexAddr 22 (.tmp 39) (.tmp 40), none⟩,
    ⟨some 42, .load 3 (.tmp 41), none⟩,
    ⟨some 43, .move (.tmp 8), none⟩,
    ⟨some 44, .binOp .leq 3 (.tmp 42) (.tmp 43) 3, none⟩,
    ⟨some 45, .indexAddr 55 (.tmp 37) (.tmp 38), none⟩,
    ⟨none, .store 4 (.tmp 45) (.tmp 44), none⟩]) (.seq (.seq (.reg [⟨some 46, .move (.tmp 7), none⟩,
    ⟨some 47, .binOp .sub 3 (.tmp 46) (.const (.int .i64 1)) 3, none⟩,
    ⟨some 10, .assign (.tmp 47), none⟩]) (.block 0 (.loop (.seq (.seq (.reg [⟨some 48, .move (.tmp 10), none⟩,
    ⟨some 49, .binOp .geq 3 (.tmp 48) (.const (.int .i64 0)) 3, none⟩]) (.cond (.tmp 49) .skip (.exit 0))) (.seq (.block 1 (.seq (.reg [⟨some 11, .assign (.const (.int .i64 0)), none⟩]) (.block 2 (.loop (.seq (.seq (.reg [⟨some 52, .move (.tmp 11), none⟩,
    ⟨some 53, .fieldAddr 27 (.tmp 1) 1, none⟩,
    ⟨some 54, .load 3 (.tmp 53), none⟩,
    ⟨some 55, .binOp .lss 3 (.tmp 52) (.tmp 54) 3, none⟩,
    ⟨some 56, .move (.tmp 55), none⟩,
    ⟨some 57, .move (.tmp 6), some (56, true)⟩,
    ⟨some 58, .move (.tmp 10), some (56, true)⟩,
    ⟨some 59, .indexAddr 22 (.tmp 57) (.tmp 58), some (56, true)⟩,
    ⟨some 60, .load 3 (.tmp 59), some (56, true)⟩,
    ⟨some 61, .move (.tmp 8), some (56, true)⟩,
    ⟨some 62, .binOp .leq 3 (.tmp 60) (.tmp 61) 3, some (56, true)⟩,
    ⟨some 63, .pick (.tmp 56) (.tmp 62) (.const (.bool false)), none⟩,
    ⟨some 64, .move (.tmp 63), none⟩,
    ⟨some 65, .move (.tmp 9), some (64, true)⟩,
    ⟨some 66, .move (.tmp 10), some (64, true)⟩,
    ⟨some 67, .indexAddr 55 (.tmp 65) (.tmp 66), some (64, true)⟩,
    ⟨some 68, .load 4 (.tmp 67), some (64, true)⟩,
    ⟨some 69, .unOp .not 4 (.tmp 68), some (64, true)⟩,
    ⟨some 70, .pick (.tmp 64) (.tmp 69) (.const (.bool false)), none⟩]) (.cond (.tmp 70) .skip (.exit 2))) (.seq (.block 3 (.reg [⟨some 73, .move (.tmp 9), none⟩,
    ⟨some 74, .move (.tmp 10), none⟩,
    ⟨some 75, .move (.tmp 10), none⟩,
    ⟨some 76, .move (.tmp 11), none⟩,
    ⟨some 77, .binOp .shr 3 (.tmp 75) (.tmp 76) 3, none⟩,
    ⟨some 78, .binOp .and 3 (.tmp 77) (.const (.int .i64 1)) 3, none⟩,
    ⟨some 79, .binOp .eql 3 (.tmp 78) (.const (.int .i64 0)) 3, none⟩,
    ⟨some 80, .move (.tmp 79), none⟩,
    ⟨some 81, .move (.tmp 9), some (80, true)⟩,
    ⟨some 82, .move (.tmp 10), some (80, true)⟩,
    ⟨some 83, .move (.tmp 11), some (80, true)⟩,
    ⟨some 84, .binOp .shl 3 (.const (.int .i64 1)) (.tmp 83) 3, some (80, true)⟩,
    ⟨some 85, .binOp .or 3 (.tmp 82) (.tmp 84) 3, some (80, true)⟩,
    ⟨some 86, .indexAddr 55 (.tmp 81) (.tmp 85), some (80, true)⟩,
    ⟨some 87, .load 4 (.tmp 86), some (80, true)⟩,
    ⟨some 88, .pick (.tmp 80) (.tmp 87) (.const (.bool false)), none⟩,
    ⟨some 89, .indexAddr 55 (.tmp 73) (.tmp 74), none⟩,
    ⟨none, .store 4 (.tmp 89) (.tmp 88), none⟩])) (.reg [⟨some 71, .move (.tmp 11), none⟩,
    ⟨some 72, .binOp .add 3 (.tmp 71) (.const (.int .i64 1)) 3, none⟩,
    ⟨some 11, .assign (.tmp 72), none⟩]))))))) (.reg [⟨some 50, .move (.tmp 10), none⟩,
    ⟨some 51, .binOp .sub 3 (.tmp 50) (.const (.int .i64 1)) 3, none⟩,
    ⟨some 10, .assign (.tmp 51), none⟩])))))) (.seq (.seq (.reg [⟨some 12, .assign (.const (.int .i64 0)), none⟩]) (.block 4 (.loop (.seq (.seq (.reg [⟨some 90, .move (.tmp 12), none⟩,
    ⟨some 91, .move (.tmp 7), none⟩,
    ⟨some 92, .binOp .neq 3 (.tmp 90) (.tmp 91) 3, none⟩]) (.cond (.tmp 92) .skip (.exit 4))) (.block 5 (.seq (.reg [⟨some 93, .fieldAddr 27 (.tmp 1) 1, none⟩,
    ⟨some 94, .load 3 (.tmp 93), none⟩,
    ⟨some 95, .move (.const (.int .i64 0)), none⟩]) (.block 6 (.loop (.seq (.reg [⟨some 96, .binOp .lss 3 (.tmp 95) (.tmp 94) 3, none⟩]) (.seq (.cond (.tmp 96) .skip (.exit 6)) (.seq (.block 7 (.seq (.reg [⟨some 97, .move (.tmp 95), none⟩,
    ⟨some 13, .assign (.tmp 97), none⟩]) (.seq (.reg [⟨some 98, .move (.tmp 12), none⟩,
    ⟨some 99, .move (.tmp 13), none⟩,
    ⟨some 100, .binOp .shr 3 (.tmp 98) (.tmp 99) 3, none⟩,
    ⟨some 101, .binOp .and 3 (.tmp 100) (.const (.int .i64 1)) 3, none⟩,
    ⟨some 102, .binOp .eql 3 (.tmp 101) (.const (.int .i64 0)) 3, none⟩,
    ⟨some 103, .move (.tmp 102), none⟩,
    ⟨some 104, .move (.tmp 9), some (103, true)⟩,
    ⟨some 105, .move (.tmp 12), some (103, true)⟩,
    ⟨some 106, .move (.tmp 13), some (103, true)⟩,
    ⟨some 107, .binOp .shl 3 (.const (.int .i64 1)) (.tmp 106) 3, some (103, true)⟩,
    ⟨some 108, .binOp .or 3 (.tmp 105) (.tmp 107) 3, some (103, true)⟩,
    ⟨some 109, .indexAddr 55 (.tmp 104) (.tmp 108), some (103, true)⟩,
    ⟨some 110, .load 4 (.tmp 109), some (103, true)⟩,
    ⟨some 111, .pick (.tmp 103) (.tmp 110) (.const (.bool false)), none⟩]) (.cond (.tmp 111) (.seq (.reg [⟨some 112, .move (.tmp 2), none⟩,
    ⟨some 113, .move (.tmp 13), none⟩,
    ⟨some 114, .buildSlice 22 1 #[(0, .tmp 113)], none⟩,
    ⟨some 115, .call { callee := .builtin .append, args := #[.tmp 112, .tmp 114], argTypes := #[22, 22] }, none⟩,
    ⟨some 2, .assign (.tmp 115), none⟩]) (.seq (.reg [⟨some 116, .move (.tmp 12), none⟩,
    ⟨some 117, .move (.tmp 13), none⟩,
    ⟨some 118, .binOp .shl 3 (.const (.int .i64 1)) (.tmp 117) 3, none⟩,
    ⟨some 119, .binOp .or 3 (.tmp 116) (.tmp 118) 3, none⟩,
    ⟨some 12, .assign (.tmp 119), none⟩]) (.exit 6))) .skip)))) (.reg [⟨some 120, .binOp .add 3 (.tmp 95) (.const (.int .i64 1)) 3, none⟩,
    ⟨some 95, .move (.tmp 120), none⟩])))))))))))) (.seq (.reg [⟨some 121, .move (.tmp 2), none⟩,
    ⟨some 122, .move (.tmp 3), none⟩,
    ⟨some 2, .assign (.tmp 121), none⟩,
    ⟨some 3, .assign (.tmp 122), none⟩,
    ⟨some 4, .assign (.const (.int .i64 0)), none⟩]) .ret))))))))))
theorem at26 {args : List AV} {H : AH} {Q : AV → AH → Prop} (hl : args.length ≤ 123) (h : swp Try.prog s26 (fin Try.prog [.tmp 2, .tmp 3, .tmp 4] Q) (env0 args) H) : AC Try.prog 26 args H Q :=
  AC.of (fun _ => []) Try.func26 rfl (by kernel_rfl) mixed (by kernel_rfl) (by kernel_rfl) rfl hl h
/-! ### function 27: codewright/codewrightref48.Best -/
def s27 : SC :=
  .seq (.reg [⟨some 1, .box 27 (.tmp 0), none⟩,
    ⟨some 2, .assign (.const (.slice none 0 0)), none⟩]) (.seq (.reg [⟨some 13, .load 27 (.tmp 1), none⟩,
    ⟨some 14, .call { callee := .value (.func 44), args := #[.tmp 13], argTypes := #[27] }, none⟩,
    ⟨some 3, .assign (.tmp 14), none⟩]) (.seq (.reg [⟨some 15, .load 27 (.tmp 1), none⟩,
    ⟨some 16, .call { callee := .value (.func 28), args := #[.tmp 15], argTypes := #[27] }, none⟩,
    ⟨some 4, .assign (.tmp 16), none⟩]) (.seq (.reg [⟨some 17, .move (.tmp 3), none⟩,
    ⟨some 18, .call { callee := .builtin .len, args := #[.tmp 17], argTypes := #[22] }, none⟩,
    ⟨some 19, .binOp .sub 3 (.tmp 18) (.const (.int .i64 1)) 3, none⟩,
    ⟨some 5, .assign (.tmp 19), none⟩]) (.seq (.reg [⟨some 20, .move (.tmp 4), none⟩,
    ⟨some 21, .move (.tmp 5), none⟩,
    ⟨some 22, .indexAddr 22 (.tmp 20) (.tmp 21), none⟩,
    ⟨some 23, .load 3 (.tmp 22), none⟩,
    ⟨some 6, .assign (.tmp 23), none⟩]) (.seq (.reg [⟨some 24, .move (.tmp 3), none⟩,
    ⟨some 25, .call { callee := .builtin .len, args := #[.tmp 24], argTypes := #[22] }, none⟩,
    ⟨some 26, .makeSlice 55 (.tmp 25) (.tmp 25), none⟩,
    ⟨some 7, .assign (.tmp 26), none⟩]) (.seq (.seq (.reg [⟨some 27, .move (.tmp 5), none⟩,
    ⟨some 8, .assign (.tmp 27), none⟩]) (.block 0 (.loop (.seq (.seq (.reg [⟨some 28, .move (.tmp 8), none⟩,
    ⟨some 29, .binOp .geq 3 (.tmp 28) (.const (.int .i64 0)) 3, none⟩]) (.cond (.tmp 29) .skip (.exit 0))) (.seq (.block 1 (.seq (.reg [⟨some 32, .move (.tmp 7), none⟩,
    ⟨some 33, .move (.tmp 8), none⟩,
    ⟨some 34, .move (.tmp 8), none⟩,
    ⟨some 35, .move (.tmp 5), none⟩,
    ⟨some 36, .binOp .eql 3 (.tmp 34) (.tmp 35) 3, none⟩,
    ⟨some 37, .indexAddr 55 (.tmp 32) (.tmp 33), none⟩,
    ⟨none, .store 4 (.tmp 37) (.tmp 36), none⟩]) (.seq (.seq (.reg [⟨some 9, .assign (.const (.int .i64 0)), none⟩]) (.block 2 (.loop (.seq (.seq (.reg [⟨some 38, .move (.tmp 9), none⟩,
    ⟨some 39, .fieldAddr 27 (.tmp 1) 1, none⟩,
    ⟨some 40, .load 3 (.tmp 39), none⟩,
    ⟨some 41, .binOp .lss 3 (.tmp 38) (.tmp 40) 3, none⟩,
    ⟨some 42, .move (.tmp 41), none⟩,
    ⟨some 43, .move (.tmp 7), some (42, true)⟩,
    ⟨some 44, .move (.tmp 8), some (42, true)⟩,
    ⟨some 45, .indexAddr 55 (.tmp 43) (.tmp 44), some (42, true)⟩,
    ⟨some 46, .load 4 (.tmp 45), some (42, true)⟩,
    ⟨some 47, .unOp .not 4 (.tmp 46), some (42, true)⟩,
    ⟨some 48, .pick (.tmp 42) (.tmp 47) (.const (.bool false)), none⟩]) (.cond (.tmp 48) .skip (.exit 2))) (.seq (.block 3 (.reg [⟨some 51, .move (.tmp 7), none⟩,
    ⟨some 52, .move (.tmp 8), none⟩,
    ⟨some 53, .move (.tmp 8), none⟩,
    ⟨some 54, .move (.tmp 9), none⟩,
    ⟨some 55, .convert 3 67 (.tmp 54), none⟩,
    ⟨some 56, .binOp .shr 3 (.tmp 53) (.tmp 55) 67, none⟩,
    ⟨some 57, .binOp .and 3 (.tmp 56) (.const (.int .i64 1)) 3, none⟩,
    ⟨some 58, .binOp .eql 3 (.tmp 57) (.const (.int .i64 0)) 3, none⟩,
    ⟨some 59, .move (.tmp 58), none⟩,
    ⟨some 60, .move (.tmp 7), some (59, true)⟩,
    ⟨some 61, .move (.tmp 8), some (59, true)⟩,
    ⟨some 62, .move (.tmp 9), some (59, true)⟩,
    ⟨some 63, .convert 3 67 (.tmp 62), some (59, true)⟩,
    ⟨some 64, .binOp .shl 3 (.const (.int .i64 1)) (.tmp 63) 67, some (59, true)⟩,
    ⟨some 65, .binOp .add 3 (.tmp 61) (.tmp 64) 3, some (59, true)⟩,
    ⟨some 66, .indexAddr 55 (.tmp 60) (.tmp 65), some (59, true)⟩,
    ⟨some 67, .load 4 (.tmp 66), some (59, true)⟩,
    ⟨some 68, .pick (.tmp 59) (.tmp 67) (.const (.bool false)), none⟩,
    ⟨some 69, .indexAddr 55 (.tmp 51) (.tmp 52), none⟩,
    ⟨none, .store 4 (.tmp 69) (.tmp 68), none⟩])) (.reg [⟨some 49, .move (.tmp 9), none⟩,
    ⟨some 50, .binOp .add 3 (.tmp 49) (.const (.int .i64 1)) 3, none⟩,
    ⟨some 9, .assign (.tmp 50), none⟩])))))) (.reg [⟨some 70, .move (.tmp 7), none⟩,
    ⟨some 71, .move (.tmp 8), none⟩,
    ⟨some 72, .move (.tmp 7), none⟩,
    ⟨some 73, .move (.tmp 8), none⟩,
    ⟨some 74, .indexAddr 55 (.tmp 72) (.tmp 73), none⟩,
    ⟨some 75, .load 4 (.tmp 74), none⟩,
    ⟨some 76, .move (.tmp 75), none⟩,
    ⟨some 77, .move (.tmp 3), some (76, true)⟩,
    ⟨some 78, .move (.tmp 8), some (76, true)⟩,
    ⟨some 79, .indexAddr 22 (.tmp 77) (.tmp 78), some (76, true)⟩,
    ⟨some 80, .load 3 (.tmp 79), some (76, true)⟩,
    ⟨some 81, .move (.tmp 6), some (76, true)⟩,
    ⟨some 82, .binOp .leq 3 (.tmp 80) (.tmp 81) 3, some (76, true)⟩,
    ⟨some 83, .pick (.tmp 76) (.tmp 82) (.const (.bool false)), none⟩,
    ⟨some 84, .indexAddr 55 (.tmp 70) (.tmp 71), none⟩,
    ⟨none, .store 4 (.tmp 84) (.tmp 83), none⟩])))) (.reg [⟨some 30, .move (.tmp 8), none⟩,
    ⟨some 31, .binOp .sub 3 (.tmp 30) (.const (.int .i64 1)) 3, none⟩,
    ⟨some 8, .assign (.tmp 31), none⟩])))))) (.seq (.reg [⟨some 85, .buildSlice 22 0 #[], none⟩,
    ⟨some 10, .assign (.tmp 85), none⟩]) (.seq (.reg [⟨some 11, .assign (.const (.int .i64 0)), none⟩]) (.seq (.block 4 (.loop (.seq (.seq (.reg [⟨some 86, .move (.tmp 10), none⟩,
    ⟨some 87, .call { callee := .builtin .len, args := #[.tmp 86], argTypes := #[22] }, none⟩,
    ⟨some 88, .fieldAddr 27 (.tmp 1) 1, none⟩,
    ⟨some 89, .load 3 (.tmp 88), none⟩,
    ⟨some 90, .binOp .lss 3 (.tmp 87) (.tmp 89) 3, none⟩]) (.cond (.tmp 90) .skip (.exit 4))) (.block 5 (.seq (.reg [⟨some 12, .assign (.const (.int .i64 0)), none⟩]) (.seq (.block 6 (.loop (.seq (.seq (.reg [⟨some 91, .move (.tmp 11), none⟩,
    ⟨some 92, .move (.tmp 12), none⟩,
    ⟨some 93, .convert 3 67 (.tmp 92), none⟩,
    ⟨some 94, .binOp .shr 3 (.tmp 91) (.tmp 93) 67, none⟩,
    ⟨some 95, .binOp .and 3 (.tmp 94) (.const (.int .i64 1)) 3, none⟩,
    ⟨some 96, .binOp .eql 3 (.tmp 95) (.const (.int .i64 1)) 3, none⟩,
    ⟨some 97, .move (.tmp 96), none⟩,
    ⟨some 98, .move (.tmp 7), some (97, false)⟩,
    ⟨some 99, .move (.tmp 11), some (97, false)⟩,
    ⟨some 100, .move (.tmp 12), some (97, false)⟩,
    ⟨some 101, .convert 3 67 (.tmp 100), some (97, false)⟩,
    ⟨some 102, .binOp .shl 3 (.const (.int .i64 1)) (.tmp 101) 67, some (97, false)⟩,
    ⟨some 103, .binOp .add 3 (.tmp 99) (.tmp 102) 3, some (97, false)⟩,
    ⟨some 104, .indexAddr 55 (.tmp 98) (.tmp 103), some (97, false)⟩,
    ⟨some 105, .load 4 (.tmp 104), some (97, false)⟩,
    ⟨some 106, .unOp .not 4 (.tmp 105), some (97, false)⟩,
    ⟨some 107, .pick (.tmp 97) (.const (.bool true)) (.tmp 106), none⟩]) (.cond (.tmp 107) .skip (.exit 6))) (.block 7 (.reg [⟨some 108, .move (.tmp 12), none⟩,
    ⟨some 109, .binOp .add 3 (.tmp 108) (.const (.int .i64 1)) 3, none⟩,
    ⟨some 12, .assign (.tmp 109), none⟩]))))) (.seq (.reg [⟨some 110, .move (.tmp 10), none⟩,
    ⟨some 111, .move (.tmp 12), none⟩,
    ⟨some 112, .buildSlice 22 1 #[(0, .tmp 111)], none⟩,
    ⟨some 113, .call { callee := .builtin .append, args := #[.tmp 110, .tmp 112], argTypes := #[22, 22] }, none⟩,
    ⟨some 10, .assign (.tmp 113), none⟩]) (.reg [⟨some 114, .move (.tmp 11), none⟩,
    ⟨some 115, .move (.tmp 12), none⟩,
    ⟨some 116, .convert 3 67 (.tmp 115), none⟩,
    ⟨some 117, .binOp .shl 3 (.const (.int .i64 1)) (.tmp 116) 67, none⟩,
    ⟨some 118, .binOp .add 3 (.tmp 114) (.tmp 117) 3, none⟩,
    ⟨some 11, .assign (.tmp 118), none⟩])))))))) (.seq (.reg [⟨some 119, .move (.tmp 10), none⟩,
    ⟨some 2, .assign (.tmp 119), none⟩]) .ret))))))))))
theorem at27 {args : List AV} {H : AH} {Q : AV → AH → Prop} (hl : args.length ≤ 120) (h : swp Try.prog s27 (fin Try.prog [.tmp 2] Q) (env0 args) H) : AC Try.prog 27 args H Q :=
  AC.of (fun _ => []) Try.func27 rfl (by kernel_rfl) mixed (by kernel_rfl) (by kernel_rfl) rfl hl h
/-! ### function 28: codewright/codewrightref48.Table -/
def s28 : SC :=
  .seq (.reg [⟨some 1, .box 27 (.tmp 0), none⟩,
    ⟨some 2, .assign (.const (.slice none 0 0)), none⟩]) (.seq (.reg [⟨some 8, .load 27 (.tmp 1), none⟩,
    ⟨some 9, .call { callee := .value (.func 44), args := #[.tmp 8], argTypes := #[27] }, none⟩,
    ⟨some 3, .assign (.tmp 9), none⟩]) (.seq (.reg [⟨some 10, .move (.tmp 3), none⟩,
    ⟨some 11, .call { callee := .builtin .len, args := #[.tmp 10], argTypes := #[22] }, none⟩,
    ⟨some 12, .makeSlice 22 (.tmp 11) (.tmp 11), none⟩,
    ⟨some 4, .assign (.tmp 12), none⟩]) (.seq (.seq (.reg [⟨some 5, .assign (.const (.int .i64 1)), none⟩]) (.block 0 (.loop (.seq (.seq (.reg [⟨some 13, .move (.tmp 5), none⟩,
    ⟨some 14, .move (.tmp 3), none⟩,
    ⟨some 15, .call { callee := .builtin .len, args := #[.tmp 14], argTypes := #[22] }, none⟩,
    ⟨some 16, .binOp .lss 3 (.tmp 13) (.tmp 15) 3, none⟩]) (.cond (.tmp 16) .skip (.exit 0))) (.seq (.block 1 (.seq (.reg [⟨some 6, .assign (.const (.int .i64 (-1))), none⟩]) (.seq (.seq (.reg [⟨some 7, .assign (.const (.int .i64 0)), none⟩]) (.block 2 (.loop (.seq (.seq (.reg [⟨some 19, .move (.tmp 7), none⟩,
    ⟨some 20, .fieldAddr 27 (.tmp 1) 1, none⟩,
    ⟨some 21, .load 3 (.tmp 20), none⟩,
    ⟨some 22, .binOp .lss 3 (.tmp 19) (.tmp 21) 3, none⟩]) (.cond (.tmp 22) .skip (.exit 2))) (.seq (.block 3 (.seq (.reg [⟨some 25, .move (.tmp 5), none⟩,
    ⟨some 26, .move (.tmp 7), none⟩,
    ⟨some 27, .convert 3 67 (.tmp 26), none⟩,
    ⟨some 28, .binOp .shr 3 (.tmp 25) (.tmp 27) 67, none⟩,
    ⟨some 29, .binOp .and 3 (.tmp 28) (.const (.int .i64 1)) 3, none⟩,
    ⟨some 30, .binOp .eql 3 (.tmp 29) (.const (.int .i64 1)) 3, none⟩,
    ⟨some 31, .move (.tmp 30), none⟩,
    ⟨some 32, .move (.tmp 6), some (31, true)⟩,
    ⟨some 33, .binOp .lss 3 (.tmp 32) (.const (.int .i64 0)) 3, some (31, true)⟩,
    ⟨some 34, .move (.tmp 33), some (31, true)⟩,
    ⟨some 35, .move (.tmp 4), some (34, false)⟩,
    ⟨some 36, .move (.tmp 5), some (34, false)⟩,
    ⟨some 37, .move (.tmp 7), some (34, false)⟩,
    ⟨some 38, .convert 3 67 (.tmp 37), some (34, false)⟩,
    ⟨some 39, .binOp .shl 3 (.const (.int .i64 1)) (.tmp 38) 67, some (34, false)⟩,
    ⟨some 40, .binOp .sub 3 (.tmp 36) (.tmp 39) 3, some (34, false)⟩,
    ⟨some 41, .indexAddr 22 (.tmp 35) (.tmp 40), some (34, false)⟩,
    ⟨some 42, .load 3 (.tmp 41), some (34, false)⟩,
    ⟨some 43, .move (.tmp 6), some (34, false)⟩,
    ⟨some 44, .binOp .lss 3 (.tmp 42) (.tmp 43) 3, some (34, false)⟩,
    ⟨some 45, .pick (.tmp 34) (.const (.bool true)) (.tmp 44), some (31, true)⟩,
    ⟨some 46, .pick (.tmp 31) (.tmp 45) (.const (.bool false)), none⟩]) (.cond (.tmp 46) (.reg [⟨some 47, .move (.tmp 4), none⟩,
    ⟨some 48, .move (.tmp 5), none⟩,
    ⟨some 49, .move (.tmp 7), none⟩,
    ⟨some 50, .convert 3 67 (.tmp 49), none⟩,
    ⟨some 51, .binOp .shl 3 (.const (.int .i64 1)) (.tmp 50) 67, none⟩,
    ⟨some 52, .binOp .sub 3 (.tmp 48) (.tmp 51) 3, none⟩,
    ⟨some 53, .indexAddr 22 (.tmp 47) (.tmp 52), none⟩,
    ⟨some 54, .load 3 (.tmp 53), none⟩,
    ⟨some 6, .assign (.tmp 54), none⟩]) .skip))) (.reg [⟨some 23, .move (.tmp 7), none⟩,
    ⟨some 24, .binOp .add 3 (.tmp 23) (.const (.int .i64 1)) 3, none⟩,
    ⟨some 7, .assign (.tmp 24), none⟩])))))) (.reg [⟨some 55, .move (.tmp 4), none⟩,
    ⟨some 56, .move (.tmp 5), none⟩,
    ⟨some 57, .move (.tmp 3), none⟩,
    ⟨some 58, .move (.tmp 5), none⟩,
    ⟨some 59, .indexAddr 22 (.tmp 57) (.tmp 58), none⟩,
    ⟨some 60, .load 3 (.tmp 59), none⟩,
    ⟨some 61, .move (.tmp 6), none⟩,
    ⟨some 62, .call { callee := .builtin .max, args := #[.tmp 60, .tmp 61], argTypes := #[3, 3] }, none⟩,
    ⟨some 63, .indexAddr 22 (.tmp 55) (.tmp 56), none⟩,
    ⟨none, .store 3 (.tmp 63) (.tmp 62), none⟩])))) (.reg [⟨some 17, .move (.tmp 5), none⟩,
    ⟨some 18, .binOp .add 3 (.tmp 17) (.const (.int .i64 1)) 3, none⟩,
    ⟨some 5, .assign (.tmp 18), none⟩])))))) (.seq (.reg [⟨some 64, .move (.tmp 4), none⟩,
    ⟨some 2, .assign (.tmp 64), none⟩]) .ret))))
theorem at28 {args : List AV} {H : AH} {Q : AV → AH → Prop} (hl : args.length ≤ 65) (h : swp Try.prog s28 (fin Try.prog [.tmp 2] Q) (env0 args) H) : AC Try.prog 28 args H Q :=
  AC.of (fun _ => []) Try.func28 rfl (by kernel_rfl) mixed (by kernel_rfl) (by kernel_rfl) rfl hl h
/-! ### function 29: codewright/code.Check -/
def pl29 : Nat → Plan
  | 6 => [(0, []), (1, []), (2, []), (3, [1]), (4, []), (5, [])]
  | _ => []
def s29 : SC :=
  .seq (.reg [⟨some 1, .box 27 (.tmp 0), none⟩,
    ⟨some 2, .assign (.const (.int .i64 0)), none⟩]) (.seq (.seq (.reg [⟨some 4, .fieldAddr 27 (.tmp 1) 0, none⟩,
    ⟨some 5, .load 24 (.tmp 4), none⟩,
    ⟨some 6, .call { callee := .value (.func 45), args := #[.tmp 5], argTypes := #[24] }, none⟩,
    ⟨some 7, .binOp .neq 28 (.tmp 6) (.const (.int .i64 0)) 28, none⟩]) (.cond (.tmp 7) (.seq (.reg [⟨some 2, .assign (.const (.int .i64 1)), none⟩]) .ret) .skip)) (.seq (.seq (.reg [⟨some 8, .fieldAddr 27 (.tmp 1) 1, none⟩,
    ⟨some 9, .load 3 (.tmp 8), none⟩,
    ⟨some 10, .call { callee := .value (.func 46), args := #[.tmp 9], argTypes := #[3] }, none⟩,
    ⟨some 3, .assign (.tmp 10), none⟩]) (.seq (.reg [⟨some 11, .move (.tmp 3), none⟩,
    ⟨some 12, .binOp .neq 28 (.tmp 11) (.const (.int .i64 0)) 28, none⟩]) (.cond (.tmp 12) (.seq (.reg [⟨some 13, .move (.tmp 3), none⟩,
    ⟨some 2, .assign (.tmp 13), none⟩]) .ret) .skip))) (.seq (.draw [(0, [], ⟨some 14, .fieldAddr 27 (.tmp 1) 0, none⟩),
    (1, [], ⟨some 15, .load 24 (.tmp 14), none⟩),
    (2, [], ⟨some 16, .load 27 (.tmp 1), none⟩),
    (3, [1], ⟨some 17, .call { callee := .value (.func 42), args := #[.tmp 16], argTypes := #[27] }, none⟩),
    (4, [], ⟨some 18, .call { callee := .value (.func 47), args := #[.tmp 15, .tmp 17], argTypes := #[24, 59] }, none⟩),
    (5, [], ⟨some 2, .assign (.tmp 18), none⟩)]) .ret)))
theorem at29 {args : List AV} {H : AH} {Q : AV → AH → Prop} (hl : args.length ≤ 19) (h : swp Try.prog s29 (fin Try.prog [.tmp 2] Q) (env0 args) H) : AC Try.prog 29 args H Q :=
  AC.of (pl29) Try.func29 rfl (by kernel_rfl) mixed (by kernel_rfl) (by kernel_rfl) rfl hl h
/-! ### function 30: codewright/ordering.dimension -/
def pl30 : Nat → Plan
  | 1 => [(0, []), (1, []), (3, []), (4, []), (5, []), (8, []), (9, []), (10, []), (2, [3, 9]), (6, [9]), (7, []), (11, []), (12, [])]
  | _ => []
def s30 : SC :=
  .seq (.reg [⟨some 2, .box 27 (.tmp 0), none⟩,
    ⟨some 4, .assign (.const (.int .i64 0)), none⟩]) (.seq (.draw [(0, [], ⟨some 5, .load 27 (.tmp 2), none⟩),
    (1, [], ⟨some 6, .move (.tmp 1), none⟩),
    (3, [], ⟨some 8, .load 27 (.tmp 2), none⟩),
    (4, [], ⟨some 9, .move (.tmp 1), none⟩),
    (5, [], ⟨some 10, .unOp .xor 52 (.tmp 9), none⟩),
    (8, [], ⟨some 13, .fieldAddr 27 (.tmp 2) 2, none⟩),
    (9, [], ⟨some 14, .load 25 (.tmp 13), none⟩),
    (10, [], ⟨some 15, .call { callee := .builtin .len, args := #[.tmp 14], argTypes := #[25] }, none⟩),
    (2, [3, 9], ⟨some 7, .call { callee := .value (.func 48), args := #[.tmp 5, .tmp 6], argTypes := #[27, 52] }, none⟩),
    (6, [9], ⟨some 11, .call { callee := .value (.func 48), args := #[.tmp 8, .tmp 10], argTypes := #[27, 52] }, none⟩),
    (7, [], ⟨some 12, .binOp .add 3 (.tmp 7) (.tmp 11) 3, none⟩),
    (11, [], ⟨some 16, .binOp .sub 3 (.tmp 12) (.tmp 15) 3, none⟩),
    (12, [], ⟨some 4, .assign (.tmp 16), none⟩)]) .ret)
theorem at30 {args : List AV} {H : AH} {Q : AV → AH → Prop} (hl : args.length ≤ 17) (h : swp Try.prog s30 (fin Try.prog [.tmp 4] Q) (env0 args) H) : AC Try.prog 30 args H Q :=
  AC.of (pl30) Try.func30 rfl (by kernel_rfl) mixed (by kernel_rfl) (by kernel_rfl) rfl hl h
/-! ### function 31: codewright/codewrightref48.Of -/
def pl31 : Nat → Plan
  | 1 => [(0, []), (1, []), (3, []), (4, []), (5, []), (6, []), (10, []), (11, []), (12, []), (2, [3, 5, 11]), (7, [3, 11]), (8, [11]), (9, []), (13, []), (14, [])]
  | _ => []
def s31 : SC :=
  .seq (.reg [⟨some 2, .box 27 (.tmp 0), none⟩,
    ⟨some 4, .assign (.const (.int .i64 0)), none⟩]) (.seq (.draw [(0, [], ⟨some 5, .load 27 (.tmp 2), none⟩),
    (1, [], ⟨some 6, .move (.tmp 1), none⟩),
    (3, [], ⟨some 8, .load 27 (.tmp 2), none⟩),
    (4, [], ⟨some 9, .fieldAddr 27 (.tmp 2) 1, none⟩),
    (5, [], ⟨some 10, .load 3 (.tmp 9), none⟩),
    (6, [], ⟨some 11, .move (.tmp 1), none⟩),
    (10, [], ⟨some 15, .fieldAddr 27 (.tmp 2) 2, none⟩),
    (11, [], ⟨some 16, .load 25 (.tmp 15), none⟩),
    (12, [], ⟨some 17, .call { callee := .builtin .len, args := #[.tmp 16], argTypes := #[25] }, none⟩),
    (2, [3, 5, 11], ⟨some 7, .call { callee := .value (.func 49), args := #[.tmp 5, .tmp 6], argTypes := #[27, 22] }, none⟩),
    (7, [3, 11], ⟨some 12, .call { callee := .value (.func 14), args := #[.tmp 10, .tmp 11], argTypes := #[3, 22] }, none⟩),
    (8, [11], ⟨some 13, .call { callee := .value (.func 49), args := #[.tmp 8, .tmp 12], argTypes := #[27, 22] }, none⟩),
    (9, [], ⟨some 14, .binOp .add 3 (.tmp 7) (.tmp 13) 3, none⟩),
    (13, [], ⟨some 18, .binOp .sub 3 (.tmp 14) (.tmp 17) 3, none⟩),
    (14, [], ⟨some 4, .assign (.tmp 18), none⟩)]) .ret)
theorem at31 {args : List AV} {H : AH} {Q : AV → AH → Prop} (hl : args.length ≤ 19) (h : swp Try.prog s31 (fin Try.prog [.tmp 4] Q) (env0 args) H) : AC Try.prog 31 args H Q :=
  AC.of (pl31) Try.func31 rfl (by kernel_rfl) mixed (by kernel_rfl) (by kernel_rfl) rfl hl h
/-! ### function 32: codewright/codewrightref04.Check -/
def pl32 : Nat → Plan
  | 12 => [(0, []), (1, []), (2, []), (3, []), (4, []), (5, []), (6, []), (7, []), (8, []), (9, []), (10, []), (11, []), (12, []), (13, []), (14, []), (15, [])]
  | _ => []
def s32 : SC :=
  .seq (.reg [⟨some 1, .box 24 (.tmp 0), none⟩,
    ⟨some 2, .assign (.const (.int .i64 0)), none⟩]) (.seq (.seq (.reg [⟨some 4, .load 24 (.tmp 1), none⟩,
    ⟨some 5, .call { callee := .value (.func 50), args := #[.tmp 4], argTypes := #[24] }, none⟩,
    ⟨some 6, .binOp .eql 3 (.tmp 5) (.const (.int .i64 0)) 3, none⟩,
    ⟨some 7, .move (.tmp 6), none⟩,
    ⟨some 8, .fieldAddr 24 (.tmp 1) 0, some (7, false)⟩,
    ⟨some 9, .load 3 (.tmp 8), some (7, false)⟩,
    ⟨some 10, .call { callee := .value (.func 51), args := #[.tmp 9], argTypes := #[3] }, some (7, false)⟩,
    ⟨some 11, .unOp .not 4 (.tmp 10), some (7, false)⟩,
    ⟨some 12, .pick (.tmp 7) (.const (.bool true)) (.tmp 11), none⟩]) (.cond (.tmp 12) (.seq (.reg [⟨some 2, .assign (.const (.int .i64 1)), none⟩]) .ret) .skip)) (.seq (.seq (.reg [⟨some 13, .fieldAddr 24 (.tmp 1) 1, none⟩,
    ⟨some 14, .load 3 (.tmp 13), none⟩,
    ⟨some 15, .binOp .eql 3 (.tmp 14) (.const (.int .i64 1)) 3, none⟩]) (.cond (.tmp 15) (.seq (.seq (.reg [⟨some 16, .fieldAddr 24 (.tmp 1) 2, none⟩,
    ⟨some 17, .load 22 (.tmp 16), none⟩,
    ⟨some 18, .call { callee := .builtin .len, args := #[.tmp 17], argTypes := #[22] }, none⟩,
    ⟨some 19, .binOp .neq 3 (.tmp 18) (.const (.int .i64 0)) 3, none⟩]) (.cond (.tmp 19) (.seq (.reg [⟨some 2, .assign (.const (.int .i64 1)), none⟩]) .ret) .skip)) (.seq (.reg [⟨some 2, .assign (.const (.int .i64 0)), none⟩]) .ret)) .skip)) (.seq (.seq (.reg [⟨some 20, .fieldAddr 24 (.tmp 1) 2, none⟩,
    ⟨some 21, .load 22 (.tmp 20), none⟩,
    ⟨some 22, .call { callee := .builtin .len, args := #[.tmp 21], argTypes := #[22] }, none⟩,
    ⟨some 23, .fieldAddr 24 (.tmp 1) 1, none⟩,
    ⟨some 24, .load 3 (.tmp 23), none⟩,
    ⟨some 25, .binOp .neq 3 (.tmp 22) (.tmp 24) 3, none⟩]) (.cond (.tmp 25) (.seq (.reg [⟨some 2, .assign (.const (.int .i64 1)), none⟩]) .ret) .skip)) (.seq (.seq (.reg [⟨some 3, .assign (.const (.int .i64 0)), none⟩]) (.block 0 (.loop (.seq (.seq (.reg [⟨some 26, .move (.tmp 3), none⟩,
    ⟨some 27, .fieldAddr 24 (.tmp 1) 1, none⟩,
    ⟨some 28, .load 3 (.tmp 27), none⟩,
    ⟨some 29, .binOp .lss 3 (.tmp 26) (.tmp 28) 3, none⟩]) (.cond (.tmp 29) .skip (.exit 0))) (.seq (.block 1 (.seq (.draw [(0, [], ⟨some 32, .fieldAddr 24 (.tmp 1) 2, none⟩),
    (1, [], ⟨some 33, .load 22 (.tmp 32), none⟩),
    (2, [], ⟨some 34, .move (.tmp 3), none⟩),
    (3, [], ⟨some 35, .indexAddr 22 (.tmp 33) (.tmp 34), none⟩),
    (4, [], ⟨some 36, .load 3 (.tmp 35), none⟩),
    (5, [], ⟨some 37, .binOp .lss 3 (.tmp 36) (.const (.int .i64 0)) 3, none⟩),
    (6, [], ⟨some 38, .move (.tmp 37), none⟩),
    (7, [], ⟨some 39, .fieldAddr 24 (.tmp 1) 2, some (38, false)⟩),
    (8, [], ⟨some 40, .load 22 (.tmp 39), some (38, false)⟩),
    (9, [], ⟨some 41, .move (.tmp 3), some (38, false)⟩),
    (10, [], ⟨some 42, .indexAddr 22 (.tmp 40) (.tmp 41), some (38, false)⟩),
    (11, [], ⟨some 43, .load 3 (.tmp 42), some (38, false)⟩),
    (12, [], ⟨some 44, .fieldAddr 24 (.tmp 1) 0, some (38, false)⟩),
    (13, [], ⟨some 45, .load 3 (.tmp 44), some (38, false)⟩),
    (14, [], ⟨some 46, .binOp .geq 3 (.tmp 43) (.tmp 45) 3, some (38, false)⟩),
    (15, [], ⟨some 47, .pick (.tmp 38) (.const (.bool true)) (.tmp 46), none⟩)]) (.cond (.tmp 47) (.seq (.reg [⟨some 2, .assign (.const (.int .i64 1)), none⟩]) .ret) .skip))) (.reg [⟨some 30, .move (.tmp 3), none⟩,
    ⟨some 31, .binOp .add 3 (.tmp 30) (.const (.int .i64 1)) 3, none⟩,
    ⟨some 3, .assign (.tmp 31), none⟩])))))) (.seq (.seq (.reg [⟨some 48, .fieldAddr 24 (.tmp 1) 2, none⟩,
    ⟨some 49, .load 22 (.tmp 48), none⟩,
    ⟨some 50, .fieldAddr 24 (.tmp 1) 0, none⟩,
    ⟨some 51, .load 3 (.tmp 50), none⟩,
    ⟨some 52, .call { callee := .value (.func 52), args := #[.tmp 49, .tmp 51], argTypes := #[22, 3] }, none⟩,
    ⟨some 53, .unOp .not 4 (.tmp 52), none⟩]) (.cond (.tmp 53) (.seq (.reg [⟨some 2, .assign (.const (.int .i64 1)), none⟩]) .ret) .skip)) (.seq (.reg [⟨some 2, .assign (.const (.int .i64 0)), none⟩]) .ret))))))
theorem at32 {args : List AV} {H : AH} {Q : AV → AH → Prop} (hl : args.length ≤ 54) (h : swp Try.prog s32 (fin Try.prog [.tmp 2] Q) (env0 args) H) : AC Try.prog 32 args H Q :=
  AC.of (pl32) Try.func32 rfl (by kernel_rfl) mixed (by kernel_rfl) (by kernel_rfl) rfl hl h
/-! ### function 33: codewright/codewrightref10.Check -/
def s33 : SC :=
  .seq (.reg [⟨some 2, .box 24 (.tmp 0), none⟩,
    ⟨some 3, .box 59 (.tmp 1), none⟩,
    ⟨some 4, .assign (.const (.int .i64 0)), none⟩]) (.seq (.reg [⟨some 8, .load 24 (.tmp 2), none⟩,
    ⟨some 9, .load 59 (.tmp 3), none⟩,
    ⟨some 10, .call { callee := .value (.func 53), args := #[.tmp 8, .tmp 9], argTypes := #[24, 59] }, none⟩,
    ⟨some 5, .assign (.tmp 10), none⟩]) (.seq (.seq (.reg [⟨some 11, .move (.tmp 5), none⟩,
    ⟨some 12, .binOp .neq 28 (.tmp 11) (.const (.int .i64 0)) 28, none⟩]) (.cond (.tmp 12) (.seq (.reg [⟨some 13, .move (.tmp 5), none⟩,
    ⟨some 4, .assign (.tmp 13), none⟩]) .ret) .skip)) (.seq (.reg [⟨some 15, .load 24 (.tmp 2), none⟩,
    ⟨some 16, .fieldAddr 59 (.tmp 3) 1, none⟩,
    ⟨some 17, .load 25 (.tmp 16), none⟩,
    ⟨some 18, .fieldAddr 59 (.tmp 3) 0, none⟩,
    ⟨some 19, .load 3 (.tmp 18), none⟩,
    ⟨some 20, .call { callee := .value (.func 54), args := #[.tmp 15, .tmp 17, .tmp 19], argTypes := #[24, 25, 3] }, none⟩,
    ⟨some 14, .move (.tmp 20), none⟩,
    ⟨some 21, .extract (.tmp 14) 0, none⟩,
    ⟨some 22, .extract (.tmp 14) 1, none⟩,
    ⟨some 6, .assign (.tmp 21), none⟩,
    ⟨some 7, .assign (.tmp 22), none⟩]) (.seq (.seq (.reg [⟨some 23, .move (.tmp 6), none⟩,
    ⟨some 24, .fieldAddr 59 (.tmp 3) 1, none⟩,
    ⟨some 25, .load 25 (.tmp 24), none⟩,
    ⟨some 26, .call { callee := .value (.func 55), args := #[.tmp 23, .tmp 25], argTypes := #[25, 25] }, none⟩,
    ⟨some 27, .unOp .not 4 (.tmp 26), none⟩]) (.cond (.tmp 27) (.seq (.reg [⟨some 4, .assign (.const (.int .i64 5)), none⟩]) .ret) .skip)) (.seq (.reg [⟨some 4, .assign (.const (.int .i64 0)), none⟩]) .ret)))))
theorem at33 {args : List AV} {H : AH} {Q : AV → AH → Prop} (hl : args.length ≤ 28) (h : swp Try.prog s33 (fin Try.prog [.tmp 4] Q) (env0 args) H) : AC Try.prog 33 args H Q :=
  AC.of (fun _ => []) Try.func33 rfl (by kernel_rfl) mixed (by kernel_rfl) (by kernel_rfl) rfl hl h
/-! ### function 34: codewright/codewrightref11.Compare -/
def pl34 : Nat → Plan
  | 4 => [(0, []), (1, []), (2, []), (3, []), (4, []), (5, []), (6, []), (7, []), (8, [])]
  | 6 => [(0, []), (1, []), (2, []), (3, []), (4, []), (5, []), (6, []), (7, []), (8, [])]
  | _ => []
def s34 : SC :=
  .seq (.reg [⟨some 4, .assign (.const (.int .i64 0)), none⟩]) (.seq (.seq (.reg [⟨some 5, .assign (.const (.int .i64 0)), none⟩]) (.block 0 (.loop (.seq (.seq (.reg [⟨some 6, .move (.tmp 5), none⟩,
    ⟨some 7, .move (.tmp 0), none⟩,
    ⟨some 8, .call { callee := .builtin .len, args := #[.tmp 7], argTypes := #[22] }, none⟩,
    ⟨some 9, .binOp .lss 3 (.tmp 6) (.tmp 8) 3, none⟩,
    ⟨some 10, .move (.tmp 9), none⟩,
    ⟨some 11, .move (.tmp 5), some (10, true)⟩,
    ⟨some 12, .move (.tmp 1), some (10, true)⟩,
    ⟨some 13, .call { callee := .builtin .len, args := #[.tmp 12], argTypes := #[22] }, some (10, true)⟩,
    ⟨some 14, .binOp .lss 3 (.tmp 11) (.tmp 13) 3, some (10, true)⟩,
    ⟨some 15, .pick (.tmp 10) (.tmp 14) (.const (.bool false)), none⟩]) (.cond (.tmp 15) .skip (.exit 0))) (.seq (.block 1 (.seq (.seq (.draw [(0, [], ⟨some 18, .move (.tmp 0), none⟩),
    (1, [], ⟨some 19, .move (.tmp 5), none⟩),
    (2, [], ⟨some 20, .indexAddr 22 (.tmp 18) (.tmp 19), none⟩),
    (3, [], ⟨some 21, .load 3 (.tmp 20), none⟩),
    (4, [], ⟨some 22, .move (.tmp 1), none⟩),
    (5, [], ⟨some 23, .move (.tmp 5), none⟩),
    (6, [], ⟨some 24, .indexAddr 22 (.tmp 22) (.tmp 23), none⟩),
    (7, [], ⟨some 25, .load 3 (.tmp 24), none⟩),
    (8, [], ⟨some 26, .binOp .lss 3 (.tmp 21) (.tmp 25) 3, none⟩)]) (.cond (.tmp 26) (.seq (.reg [⟨some 4, .assign (.const (.int .i64 (-1))), none⟩]) .ret) .skip)) (.seq (.draw [(0, [], ⟨some 27, .move (.tmp 0), none⟩),
    (1, [], ⟨some 28, .move (.tmp 5), none⟩),
    (2, [], ⟨some 29, .indexAddr 22 (.tmp 27) (.tmp 28), none⟩),
    (3, [], ⟨some 30, .load 3 (.tmp 29), none⟩),
    (4, [], ⟨some 31, .move (.tmp 1), none⟩),
    (5, [], ⟨some 32, .move (.tmp 5), none⟩),
    (6, [], ⟨some 33, .indexAddr 22 (.tmp 31) (.tmp 32), none⟩),
    (7, [], ⟨some 34, .load 3 (.tmp 33), none⟩),
    (8, [], ⟨some 35, .binOp .gtr 3 (.tmp 30) (.tmp 34) 3, none⟩)]) (.cond (.tmp 35) (.seq (.reg [⟨some 4, .assign (.const (.int .i64 1)), none⟩]) .ret) .skip)))) (.reg [⟨some 16, .move (.tmp 5), none⟩,
    ⟨some 17, .binOp .add 3 (.tmp 16) (.const (.int .i64 1)) 3, none⟩,
    ⟨some 5, .assign (.tmp 17), none⟩])))))) (.seq (.seq (.reg [⟨some 36, .move (.tmp 0), none⟩,
    ⟨some 37, .call { callee := .builtin .len, args := #[.tmp 36], argTypes := #[22] }, none⟩,
    ⟨some 38, .move (.tmp 1), none⟩,
    ⟨some 39, .call { callee := .builtin .len, args := #[.tmp 38], argTypes := #[22] }, none⟩,
    ⟨some 40, .binOp .lss 3 (.tmp 37) (.tmp 39) 3, none⟩]) (.cond (.tmp 40) (.seq (.reg [⟨some 4, .assign (.const (.int .i64 (-1))), none⟩]) .ret) .skip)) (.seq (.seq (.reg [⟨some 41, .move (.tmp 0), none⟩,
    ⟨some 42, .call { callee := .builtin .len, args := #[.tmp 41], argTypes := #[22] }, none⟩,
    ⟨some 43, .move (.tmp 1), none⟩,
    ⟨some 44, .call { callee := .builtin .len, args := #[.tmp 43], argTypes := #[22] }, none⟩,
    ⟨some 45, .binOp .gtr 3 (.tmp 42) (.tmp 44) 3, none⟩]) (.cond (.tmp 45) (.seq (.reg [⟨some 4, .assign (.const (.int .i64 1)), none⟩]) .ret) .skip)) (.seq (.reg [⟨some 4, .assign (.const (.int .i64 0)), none⟩]) .ret))))
theorem at34 {args : List AV} {H : AH} {Q : AV → AH → Prop} (hl : args.length ≤ 46) (h : swp Try.prog s34 (fin Try.prog [.tmp 4] Q) (env0 args) H) : AC Try.prog 34 args H Q :=
  AC.of (pl34) Try.func34 rfl (by kernel_rfl) mixed (by kernel_rfl) (by kernel_rfl) rfl hl h
/-! ### function 35: codewright/ordering.ordered -/
def s35 : SC :=
  .seq (.reg [⟨some 2, .box 27 (.tmp 0), none⟩,
    ⟨some 4, .assign (.const (.int .i64 0)), none⟩]) (.seq (.seq (.reg [⟨some 9, .load 27 (.tmp 2), none⟩,
    ⟨some 10, .call { callee := .value (.func 29), args := #[.tmp 9], argTypes := #[27] }, none⟩,
    ⟨some 5, .assign (.tmp 10), none⟩]) (.seq (.reg [⟨some 11, .move (.tmp 5), none⟩,
    ⟨some 12, .binOp .neq 28 (.tmp 11) (.const (.int .i64 0)) 28, none⟩]) (.cond (.tmp 12) (.seq (.reg [⟨some 13, .move (.tmp 5), none⟩,
    ⟨some 4, .assign (.tmp 13), none⟩]) .ret) .skip))) (.seq (.seq (.reg [⟨some 14, .move (.tmp 1), none⟩,
    ⟨some 15, .call { callee := .builtin .len, args := #[.tmp 14], argTypes := #[22] }, none⟩,
    ⟨some 16, .fieldAddr 27 (.tmp 2) 1, none⟩,
    ⟨some 17, .load 3 (.tmp 16), none⟩,
    ⟨some 18, .binOp .neq 3 (.tmp 15) (.tmp 17) 3, none⟩]) (.cond (.tmp 18) (.seq (.reg [⟨some 4, .assign (.const (.int .i64 5)), none⟩]) .ret) .skip)) (.seq (.reg [⟨some 19, .fieldAddr 27 (.tmp 2) 1, none⟩,
    ⟨some 20, .load 3 (.tmp 19), none⟩,
    ⟨some 21, .makeSlice 55 (.tmp 20) (.tmp 20), none⟩,
    ⟨some 6, .assign (.tmp 21), none⟩]) (.seq (.seq (.reg [⟨some 22, .move (.tmp 1), none⟩,
    ⟨some 23, .call { callee := .builtin .len, args := #[.tmp 22], argTypes := #[22] }, none⟩,
    ⟨some 24, .move (.const (.int .i64 0)), none⟩]) (.block 0 (.loop (.seq (.reg [⟨some 25, .binOp .lss 3 (.tmp 24) (.tmp 23) 3, none⟩]) (.seq (.cond (.tmp 25) .skip (.exit 0)) (.seq (.block 1 (.seq (.reg [⟨some 26, .indexAddr 22 (.tmp 22) (.tmp 24), none⟩,
    ⟨some 27, .load 3 (.tmp 26), none⟩,
    ⟨some 8, .assign (.tmp 27), none⟩]) (.seq (.seq (.reg [⟨some 28, .move (.tmp 8), none⟩,
    ⟨some 29, .binOp .lss 3 (.tmp 28) (.const (.int .i64 0)) 3, none⟩,
    ⟨some 30, .move (.tmp 29), none⟩,
    ⟨some 31, .move (.tmp 8), some (30, false)⟩,
    ⟨some 32, .fieldAddr 27 (.tmp 2) 1, some (30, false)⟩,
    ⟨some 33, .load 3 (.tmp 32), some (30, false)⟩,
    ⟨some 34, .binOp .geq 3 (.tmp 31) (.tmp 33) 3, some (30, false)⟩,
    ⟨some 35, .pick (.tmp 30) (.const (.bool true)) (.tmp 34), none⟩,
    ⟨some 36, .move (.tmp 35), none⟩,
    ⟨some 37, .move (.tmp 6), some (36, false)⟩,
    ⟨some 38, .move (.tmp 8), some (36, false)⟩,
    ⟨some 39, .indexAddr 55 (.tmp 37) (.tmp 38), some (36, false)⟩,
    ⟨some 40, .load 4 (.tmp 39), some (36, false)⟩,
    ⟨some 41, .pick (.tmp 36) (.const (.bool true)) (.tmp 40), none⟩]) (.cond (.tmp 41) (.seq (.reg [⟨some 4, .assign (.const (.int .i64 5)), none⟩]) .ret) .skip)) (.reg [⟨some 42, .move (.tmp 6), none⟩,
    ⟨some 43, .move (.tmp 8), none⟩,
    ⟨some 44, .indexAddr 55 (.tmp 42) (.tmp 43), none⟩,
    ⟨none, .store 4 (.tmp 44) (.const (.bool true)), none⟩])))) (.reg [⟨some 45, .binOp .add 3 (.tmp 24) (.const (.int .i64 1)) 3, none⟩,
    ⟨some 24, .move (.tmp 45), none⟩]))))))) (.seq (.reg [⟨some 4, .assign (.const (.int .i64 0)), none⟩]) .ret)))))
theorem at35 {args : List AV} {H : AH} {Q : AV → AH → Prop} (hl : args.length ≤ 46) (h : swp Try.prog s35 (fin Try.prog [.tmp 4] Q) (env0 args) H) : AC Try.prog 35 args H Q :=
  AC.of (fun _ => []) Try.func35 rfl (by kernel_rfl) mixed (by kernel_rfl) (by kernel_rfl) rfl hl h
/-! ### function 36: codewright/ordering.tables -/
def pl36 : Nat → Plan
  | 13 => [(0, []), (1, []), (2, []), (3, []), (4, []), (5, []), (6, []), (7, []), (8, []), (9, []), (10, []), (11, []), (12, []), (13, []), (14, []), (15, []), (16, []), (17, []), (18, [])]
  | _ => []
def s36 : SC :=
  .seq (.reg [⟨some 1, .box 27 (.tmp 0), none⟩,
    ⟨some 2, .assign (.const (.slice none 0 0)), none⟩,
    ⟨some 3, .assign (.const (.slice none 0 0)), none⟩]) (.seq (.reg [⟨some 12, .fieldAddr 27 (.tmp 1) 1, none⟩,
    ⟨some 13, .load 3 (.tmp 12), none⟩,
    ⟨some 14, .binOp .shl 3 (.const (.int .i64 1)) (.tmp 13) 3, none⟩,
    ⟨some 15, .binOp .sub 3 (.tmp 14) (.const (.int .i64 1)) 3, none⟩,
    ⟨some 4, .assign (.tmp 15), none⟩]) (.seq (.reg [⟨some 16, .move (.tmp 4), none⟩,
    ⟨some 17, .binOp .add 3 (.tmp 16) (.const (.int .i64 1)) 3, none⟩,
    ⟨some 18, .makeSlice 22 (.tmp 17) (.tmp 17), none⟩,
    ⟨some 5, .assign (.tmp 18), none⟩]) (.seq (.seq (.reg [⟨some 19, .move (.tmp 5), none⟩,
    ⟨some 20, .call { callee := .builtin .len, args := #[.tmp 19], argTypes := #[22] }, none⟩,
    ⟨some 21, .move (.const (.int .i64 0)), none⟩]) (.block 0 (.loop (.seq (.reg [⟨some 22, .binOp .lss 3 (.tmp 21) (.tmp 20) 3, none⟩]) (.seq (.cond (.tmp 22) .skip (.exit 0)) (.seq (.block 1 (.seq (.reg [⟨some 23, .move (.tmp 21), none⟩,
    ⟨some 6, .assign (.tmp 23), none⟩]) (.reg [⟨some 24, .move (.tmp 5), none⟩,
    ⟨some 25, .move (.tmp 6), none⟩,
    ⟨some 26, .load 27 (.tmp 1), none⟩,
    ⟨some 27, .move (.tmp 6), none⟩,
    ⟨some 28, .convert 3 52 (.tmp 27), none⟩,
    ⟨some 29, .call { callee := .value (.func 48), args := #[.tmp 26, .tmp 28], argTypes := #[27, 52] }, none⟩,
    ⟨some 30, .indexAddr 22 (.tmp 24) (.tmp 25), none⟩,
    ⟨none, .store 3 (.tmp 30) (.tmp 29), none⟩]))) (.reg [⟨some 31, .binOp .add 3 (.tmp 21) (.const (.int .i64 1)) 3, none⟩,
    ⟨some 21, .move (.tmp 31), none⟩]))))))) (.seq (.reg [⟨some 32, .move (.tmp 4), none⟩,
    ⟨some 33, .binOp .add 3 (.tmp 32) (.const (.int .i64 1)) 3, none⟩,
    ⟨some 34, .makeSlice 22 (.tmp 33) (.tmp 33), none⟩,
    ⟨some 7, .assign (.tmp 34), none⟩]) (.seq (.reg [⟨some 35, .move (.tmp 4), none⟩,
    ⟨some 36, .binOp .add 3 (.tmp 35) (.const (.int .i64 1)) 3, none⟩,
    ⟨some 37, .makeSlice 22 (.tmp 36) (.tmp 36), none⟩,
    ⟨some 8, .assign (.tmp 37), none⟩]) (.seq (.seq (.reg [⟨some 9, .assign (.const (.int .i64 1)), none⟩]) (.block 2 (.loop (.seq (.seq (.reg [⟨some 38, .move (.tmp 9), none⟩,
    ⟨some 39, .move (.tmp 4), none⟩,
    ⟨some 40, .binOp .leq 3 (.tmp 38) (.tmp 39) 3, none⟩]) (.cond (.tmp 40) .skip (.exit 2))) (.seq (.block 3 (.seq (.draw [(0, [], ⟨some 43, .move (.tmp 7), none⟩),
    (1, [], ⟨some 44, .move (.tmp 9), none⟩),
    (2, [], ⟨some 45, .move (.tmp 5), none⟩),
    (3, [], ⟨some 46, .move (.tmp 9), none⟩),
    (4, [], ⟨some 47, .indexAddr 22 (.tmp 45) (.tmp 46), none⟩),
    (5, [], ⟨some 48, .load 3 (.tmp 47), none⟩),
    (6, [], ⟨some 49, .move (.tmp 5), none⟩),
    (7, [], ⟨some 50, .move (.tmp 4), none⟩),
    (8, [], ⟨some 51, .move (.tmp 9), none⟩),
    (9, [], ⟨some 52, .binOp .xor 3 (.tmp 50) (.tmp 51) 3, none⟩),
    (10, [], ⟨some 53, .indexAddr 22 (.tmp 49) (.tmp 52), none⟩),
    (11, [], ⟨some 54, .load 3 (.tmp 53), none⟩),
    (12, [], ⟨some 55, .binOp .add 3 (.tmp 48) (.tmp 54) 3, none⟩),
    (13, [], ⟨some 56, .fieldAddr 27 (.tmp 1) 2, none⟩),
    (14, [], ⟨some 57, .load 25 (.tmp 56), none⟩),
    (15, [], ⟨some 58, .call { callee := .builtin .len, args := #[.tmp 57], argTypes := #[25] }, none⟩),
    (16, [], ⟨some 59, .binOp .sub 3 (.tmp 55) (.tmp 58) 3, none⟩),
    (17, [], ⟨some 60, .indexAddr 22 (.tmp 43) (.tmp 44), none⟩),
    (18, [], ⟨none, .store 3 (.tmp 60) (.tmp 59), none⟩)]) (.seq (.reg [⟨some 61, .fieldAddr 27 (.tmp 1) 1, none⟩,
    ⟨some 62, .load 3 (.tmp 61), none⟩,
    ⟨some 10, .assign (.tmp 62), none⟩]) (.seq (.seq (.reg [⟨some 63, .move (.tmp 9), none⟩,
    ⟨some 11, .assign (.tmp 63), none⟩]) (.block 4 (.loop (.seq (.seq (.reg [⟨some 64, .move (.tmp 11), none⟩,
    ⟨some 65, .binOp .neq 3 (.tmp 64) (.const (.int .i64 0)) 3, none⟩]) (.cond (.tmp 65) .skip (.exit 4))) (.seq (.block 5 (.reg [⟨some 70, .move (.tmp 10), none⟩,
    ⟨some 71, .move (.tmp 8), none⟩,
    ⟨some 72, .move (.tmp 9), none⟩,
    ⟨some 73, .move (.tmp 11), none⟩,
    ⟨some 74, .move (.tmp 11), none⟩,
    ⟨some 75, .unOp .neg 3 (.tmp 74), none⟩,
    ⟨some 76, .binOp .and 3 (.tmp 73) (.tmp 75) 3, none⟩,
    ⟨some 77, .binOp .andNot 3 (.tmp 72) (.tmp 76) 3, none⟩,
    ⟨some 78, .indexAddr 22 (.tmp 71) (.tmp 77), none⟩,
    ⟨some 79, .load 3 (.tmp 78), none⟩,
    ⟨some 80, .call { callee := .builtin .min, args := #[.tmp 70, .tmp 79], argTypes := #[3, 3] }, none⟩,
    ⟨some 10, .assign (.tmp 80), none⟩])) (.reg [⟨some 66, .move (.tmp 11), none⟩,
    ⟨some 67, .move (.tmp 11), none⟩,
    ⟨some 68, .binOp .sub 3 (.tmp 67) (.const (.int .i64 1)) 3, none⟩,
    ⟨some 69, .binOp .and 3 (.tmp 66) (.tmp 68) 3, none⟩,
    ⟨some 11, .assign (.tmp 69), none⟩])))))) (.reg [⟨some 81, .move (.tmp 8), none⟩,
    ⟨some 82, .move (.tmp 9), none⟩,
    ⟨some 83, .move (.tmp 7), none⟩,
    ⟨some 84, .move (.tmp 9), none⟩,
    ⟨some 85, .indexAddr 22 (.tmp 83) (.tmp 84), none⟩,
    ⟨some 86, .load 3 (.tmp 85), none⟩,
    ⟨some 87, .move (.tmp 10), none⟩,
    ⟨some 88, .call { callee := .builtin .max, args := #[.tmp 86, .tmp 87], argTypes := #[3, 3] }, none⟩,
    ⟨some 89, .indexAddr 22 (.tmp 81) (.tmp 82), none⟩,
    ⟨none, .store 3 (.tmp 89) (.tmp 88), none⟩]))))) (.reg [⟨some 41, .move (.tmp 9), none⟩,
    ⟨some 42, .binOp .add 3 (.tmp 41) (.const (.int .i64 1)) 3, none⟩,
    ⟨some 9, .assign (.tmp 42), none⟩])))))) (.seq (.reg [⟨some 90, .move (.tmp 7), none⟩,
    ⟨some 91, .move (.tmp 8), none⟩,
    ⟨some 2, .assign (.tmp 90), none⟩,
    ⟨some 3, .assign (.tmp 91), none⟩]) .ret)))))))
theorem at36 {args : List AV} {H : AH} {Q : AV → AH → Prop} (hl : args.length ≤ 92) (h : swp Try.prog s36 (fin Try.prog [.tmp 2, .tmp 3] Q) (env0 args) H) : AC Try.prog 36 args H Q :=
  AC.of (pl36) Try.func36 rfl (by kernel_rfl) mixed (by kernel_rfl) (by kernel_rfl) rfl hl h
/-! ### function 37: slices.Equal[[]int,int] -/
def pl37 : Nat → Plan
  | 6 => [(0, []), (1, []), (2, []), (3, []), (4, []), (5, []), (6, []), (7, []), (8, [])]
  | _ => []
def s37 : SC :=
  .seq (.reg [⟨some 4, .assign (.const (.bool false)), none⟩]) (.seq (.seq (.reg [⟨some 6, .move (.tmp 0), none⟩,
    ⟨some 7, .call { callee := .builtin .len, args := #[.tmp 6], argTypes := #[22] }, none⟩,
    ⟨some 8, .move (.tmp 1), none⟩,
    ⟨some 9, .call { callee := .builtin .len, args := #[.tmp 8], argTypes := #[22] }, none⟩,
    ⟨some 10, .binOp .neq 3 (.tmp 7) (.tmp 9) 3, none⟩]) (.cond (.tmp 10) (.seq (.reg [⟨some 4, .assign (.const (.bool false)), none⟩]) .ret) .skip)) (.seq (.seq (.reg [⟨some 11, .move (.tmp 0), none⟩,
    ⟨some 12, .call { callee := .builtin .len, args := #[.tmp 11], argTypes := #[22] }, none⟩,
    ⟨some 13, .move (.const (.int .i64 0)), none⟩]) (.block 0 (.loop (.seq (.reg [⟨some 14, .binOp .lss 3 (.tmp 13) (.tmp 12) 3, none⟩]) (.seq (.cond (.tmp 14) .skip (.exit 0)) (.seq (.block 1 (.seq (.reg [⟨some 15, .move (.tmp 13), none⟩,
    ⟨some 5, .assign (.tmp 15), none⟩]) (.seq (.draw [(0, [], ⟨some 16, .move (.tmp 0), none⟩),
    (1, [], ⟨some 17, .move (.tmp 5), none⟩),
    (2, [], ⟨some 18, .indexAddr 22 (.tmp 16) (.tmp 17), none⟩),
    (3, [], ⟨some 19, .load 3 (.tmp 18), none⟩),
    (4, [], ⟨some 20, .move (.tmp 1), none⟩),
    (5, [], ⟨some 21, .move (.tmp 5), none⟩),
    (6, [], ⟨some 22, .indexAddr 22 (.tmp 20) (.tmp 21), none⟩),
    (7, [], ⟨some 23, .load 3 (.tmp 22), none⟩),
    (8, [], ⟨some 24, .binOp .neq 3 (.tmp 19) (.tmp 23) 3, none⟩)]) (.cond (.tmp 24) (.seq (.reg [⟨some 4, .assign (.const (.bool false)), none⟩]) .ret) .skip)))) (.reg [⟨some 25, .binOp .add 3 (.tmp 13) (.const (.int .i64 1)) 3, none⟩,
    ⟨some 13, .move (.tmp 25), none⟩]))))))) (.seq (.reg [⟨some 4, .assign (.const (.bool true)), none⟩]) .ret)))
theorem at37 {args : List AV} {H : AH} {Q : AV → AH → Prop} (hl : args.length ≤ 26) (h : swp Try.prog s37 (fin Try.prog [.tmp 4] Q) (env0 args) H) : AC Try.prog 37 args H Q :=
  AC.of (pl37) Try.func37 rfl (by kernel_rfl) mixed (by kernel_rfl) (by kernel_rfl) rfl hl h
/-! ### function 38: codewright/ordering.width -/
def s38 : SC :=
  .seq (.reg [⟨some 2, .box 27 (.tmp 0), none⟩,
    ⟨some 4, .assign (.const (.int .i64 0)), none⟩]) (.seq (.reg [⟨some 5, .assign (.const (.int .u64 0)), none⟩]) (.seq (.reg [⟨some 6, .assign (.const (.int .i64 0)), none⟩]) (.seq (.seq (.reg [⟨some 9, .move (.tmp 1), none⟩,
    ⟨some 10, .call { callee := .builtin .len, args := #[.tmp 9], argTypes := #[22] }, none⟩,
    ⟨some 11, .move (.const (.int .i64 0)), none⟩]) (.block 0 (.loop (.seq (.reg [⟨some 12, .binOp .lss 3 (.tmp 11) (.tmp 10) 3, none⟩]) (.seq (.cond (.tmp 12) .skip (.exit 0)) (.seq (.block 1 (.seq (.reg [⟨some 13, .indexAddr 22 (.tmp 9) (.tmp 11), none⟩,
    ⟨some 14, .load 3 (.tmp 13), none⟩,
    ⟨some 8, .assign (.tmp 14), none⟩]) (.seq (.reg [⟨some 15, .move (.tmp 5), none⟩,
    ⟨some 16, .move (.tmp 8), none⟩,
    ⟨some 17, .binOp .shl 52 (.const (.int .u64 1)) (.tmp 16) 3, none⟩,
    ⟨some 18, .binOp .or 52 (.tmp 15) (.tmp 17) 52, none⟩,
    ⟨some 5, .assign (.tmp 18), none⟩]) (.reg [⟨some 19, .move (.tmp 6), none⟩,
    ⟨some 20, .load 27 (.tmp 2), none⟩,
    ⟨some 21, .move (.tmp 5), none⟩,
    ⟨some 22, .call { callee := .value (.func 30), args := #[.tmp 20, .tmp 21], argTypes := #[27, 52] }, none⟩,
    ⟨some 23, .call { callee := .builtin .max, args := #[.tmp 19, .tmp 22], argTypes := #[3, 3] }, none⟩,
    ⟨some 6, .assign (.tmp 23), none⟩])))) (.reg [⟨some 24, .binOp .add 3 (.tmp 11) (.const (.int .i64 1)) 3, none⟩,
    ⟨some 11, .move (.tmp 24), none⟩]))))))) (.seq (.reg [⟨some 25, .move (.tmp 6), none⟩,
    ⟨some 4, .assign (.tmp 25), none⟩]) .ret))))
theorem at38 {args : List AV} {H : AH} {Q : AV → AH → Prop} (hl : args.length ≤ 26) (h : swp Try.prog s38 (fin Try.prog [.tmp 4] Q) (env0 args) H) : AC Try.prog 38 args H Q :=
  AC.of (fun _ => []) Try.func38 rfl (by kernel_rfl) mixed (by kernel_rfl) (by kernel_rfl) rfl hl h
/-! ### function 39: codewright/codewrightref48.IsOrder -/
def s39 : SC :=
  .seq (.reg [⟨some 4, .assign (.const (.bool false)), none⟩]) (.seq (.seq (.reg [⟨some 7, .move (.tmp 1), none⟩,
    ⟨some 8, .call { callee := .builtin .len, args := #[.tmp 7], argTypes := #[22] }, none⟩,
    ⟨some 9, .move (.tmp 0), none⟩,
    ⟨some 10, .binOp .neq 3 (.tmp 8) (.tmp 9) 3, none⟩]) (.cond (.tmp 10) (.seq (.reg [⟨some 4, .assign (.const (.bool false)), none⟩]) .ret) .skip)) (.seq (.reg [⟨some 11, .move (.tmp 0), none⟩,
    ⟨some 12, .makeSlice 55 (.tmp 11) (.tmp 11), none⟩,
    ⟨some 5, .assign (.tmp 12), none⟩]) (.seq (.seq (.reg [⟨some 6, .assign (.const (.int .i64 0)), none⟩]) (.block 0 (.loop (.seq (.seq (.reg [⟨some 13, .move (.tmp 6), none⟩,
    ⟨some 14, .move (.tmp 0), none⟩,
    ⟨some 15, .binOp .lss 3 (.tmp 13) (.tmp 14) 3, none⟩]) (.cond (.tmp 15) .skip (.exit 0))) (.seq (.block 1 (.seq (.seq (.reg [⟨some 18, .move (.tmp 1), none⟩,
    ⟨some 19, .move (.tmp 6), none⟩,
    ⟨some 20, .indexAddr 22 (.tmp 18) (.tmp 19), none⟩,
    ⟨some 21, .load 3 (.tmp 20), none⟩,
    ⟨some 22, .binOp .lss 3 (.tmp 21) (.const (.int .i64 0)) 3, none⟩,
    ⟨some 23, .move (.tmp 22), none⟩,
    ⟨some 24, .move (.tmp 1), some (23, false)⟩,
    ⟨some 25, .move (.tmp 6), some (23, false)⟩,
    ⟨some 26, .indexAddr 22 (.tmp 24) (.tmp 25), some (23, false)⟩,
    ⟨some 27, .load 3 (.tmp 26), some (23, false)⟩,
    ⟨some 28, .move (.tmp 0), some (23, false)⟩,
    ⟨some 29, .binOp .geq 3 (.tmp 27) (.tmp 28) 3, some (23, false)⟩,
    ⟨some 30, .pick (.tmp 23) (.const (.bool true)) (.tmp 29), none⟩,
    ⟨some 31, .move (.tmp 30), none⟩,
    ⟨some 32, .move (.tmp 5), some (31, false)⟩,
    ⟨some 33, .move (.tmp 1), some (31, false)⟩,
    ⟨some 34, .move (.tmp 6), some (31, false)⟩,
    ⟨some 35, .indexAddr 22 (.tmp 33) (.tmp 34), some (31, false)⟩,
    ⟨some 36, .load 3 (.tmp 35), some (31, false)⟩,
    ⟨some 37, .indexAddr 55 (.tmp 32) (.tmp 36), some (31, false)⟩,
    ⟨some 38, .load 4 (.tmp 37), some (31, false)⟩,
    ⟨some 39, .pick (.tmp 31) (.const (.bool true)) (.tmp 38), none⟩]) (.cond (.tmp 39) (.seq (.reg [⟨some 4, .assign (.const (.bool false)), none⟩]) .ret) .skip)) (.reg [⟨some 40, .move (.tmp 5), none⟩,
    ⟨some 41, .move (.tmp 1), none⟩,
    ⟨some 42, .move (.tmp 6), none⟩,
    ⟨some 43, .indexAddr 22 (.tmp 41) (.tmp 42), none⟩,
    ⟨some 44, .load 3 (.tmp 43), none⟩,
    ⟨some 45, .indexAddr 55 (.tmp 40) (.tmp 44), none⟩,
    ⟨none, .store 4 (.tmp 45) (.const (.bool true)), none⟩]))) (.reg [⟨some 16, .move (.tmp 6), none⟩,
    ⟨some 17, .binOp .add 3 (.tmp 16) (.const (.int .i64 1)) 3, none⟩,
    ⟨some 6, .assign (.tmp 17), none⟩])))))) (.seq (.reg [⟨some 4, .assign (.const (.bool true)), none⟩]) .ret))))
theorem at39 {args : List AV} {H : AH} {Q : AV → AH → Prop} (hl : args.length ≤ 46) (h : swp Try.prog s39 (fin Try.prog [.tmp 4] Q) (env0 args) H) : AC Try.prog 39 args H Q :=
  AC.of (fun _ => []) Try.func39 rfl (by kernel_rfl) mixed (by kernel_rfl) (by kernel_rfl) rfl hl h
/-! ### function 40: codewright/codewrightref48.Width -/
def pl40 : Nat → Plan
  | 8 => [(0, []), (1, []), (2, []), (3, []), (4, []), (5, []), (6, []), (7, [])]
  | _ => []
def s40 : SC :=
  .seq (.reg [⟨some 2, .box 27 (.tmp 0), none⟩,
    ⟨some 4, .assign (.const (.int .i64 0)), none⟩,
    ⟨some 5, .assign (.const (.int .i64 0)), none⟩]) (.seq (.reg [⟨some 9, .load 27 (.tmp 2), none⟩,
    ⟨some 10, .move (.tmp 1), none⟩,
    ⟨some 11, .call { callee := .value (.func 23), args := #[.tmp 9, .tmp 10], argTypes := #[27, 22] }, none⟩,
    ⟨some 6, .assign (.tmp 11), none⟩]) (.seq (.seq (.reg [⟨some 12, .move (.tmp 6), none⟩,
    ⟨some 13, .binOp .neq 28 (.tmp 12) (.const (.int .i64 0)) 28, none⟩]) (.cond (.tmp 13) (.seq (.reg [⟨some 14, .move (.tmp 6), none⟩,
    ⟨some 4, .assign (.const (.int .i64 0)), none⟩,
    ⟨some 5, .assign (.tmp 14), none⟩]) .ret) .skip)) (.seq (.reg [⟨some 7, .assign (.const (.int .i64 0)), none⟩]) (.seq (.seq (.reg [⟨some 8, .assign (.const (.int .i64 0)), none⟩]) (.block 0 (.loop (.seq (.seq (.reg [⟨some 15, .move (.tmp 8), none⟩,
    ⟨some 16, .fieldAddr 27 (.tmp 2) 1, none⟩,
    ⟨some 17, .load 3 (.tmp 16), none⟩,
    ⟨some 18, .binOp .leq 3 (.tmp 15) (.tmp 17) 3, none⟩]) (.cond (.tmp 18) .skip (.exit 0))) (.seq (.block 1 (.draw [(0, [], ⟨some 21, .move (.tmp 7), none⟩),
    (1, [], ⟨some 22, .load 27 (.tmp 2), none⟩),
    (2, [], ⟨some 23, .move (.tmp 1), none⟩),
    (3, [], ⟨some 24, .move (.tmp 8), none⟩),
    (4, [], ⟨some 25, .slice 22 (.tmp 23) none (some (.tmp 24)) none, none⟩),
    (5, [], ⟨some 26, .call { callee := .value (.func 31), args := #[.tmp 22, .tmp 25], argTypes := #[27, 22] }, none⟩),
    (6, [], ⟨some 27, .call { callee := .builtin .max, args := #[.tmp 21, .tmp 26], argTypes := #[3, 3] }, none⟩),
    (7, [], ⟨some 7, .assign (.tmp 27), none⟩)])) (.reg [⟨some 19, .move (.tmp 8), none⟩,
    ⟨some 20, .binOp .add 3 (.tmp 19) (.const (.int .i64 1)) 3, none⟩,
    ⟨some 8, .assign (.tmp 20), none⟩])))))) (.seq (.reg [⟨some 28, .move (.tmp 7), none⟩,
    ⟨some 4, .assign (.tmp 28), none⟩,
    ⟨some 5, .assign (.const (.int .i64 0)), none⟩]) .ret)))))
theorem at40 {args : List AV} {H : AH} {Q : AV → AH → Prop} (hl : args.length ≤ 29) (h : swp Try.prog s40 (fin Try.prog [.tmp 4, .tmp 5] Q) (env0 args) H) : AC Try.prog 40 args H Q :=
  AC.of (pl40) Try.func40 rfl (by kernel_rfl) mixed (by kernel_rfl) (by kernel_rfl) rfl hl h
/-! ### function 41: codewright/matrix.Kernel -/
def s41 : SC :=
  .seq (.reg [⟨some 2, .box 24 (.tmp 0), none⟩,
    ⟨some 3, .box 59 (.tmp 1), none⟩,
    ⟨some 4, .alloc 59, none⟩,
    ⟨some 5, .assign (.const (.int .i64 0)), none⟩]) (.seq (.reg [⟨some 16, .load 24 (.tmp 2), none⟩,
    ⟨some 17, .load 59 (.tmp 3), none⟩,
    ⟨some 18, .buildSlice 93 1 #[(0, .tmp 17)], none⟩,
    ⟨some 19, .call { callee := .value (.func 56), args := #[.tmp 16, .tmp 18], argTypes := #[24, 93] }, none⟩,
    ⟨some 15, .move (.tmp 19), none⟩,
    ⟨some 20, .extract (.tmp 15) 0, none⟩,
    ⟨some 21, .extract (.tmp 15) 1, none⟩,
    ⟨some 6, .assign (.tmp 20), none⟩,
    ⟨some 7, .assign (.tmp 21), none⟩]) (.seq (.seq (.reg [⟨some 22, .move (.tmp 7), none⟩,
    ⟨some 23, .binOp .neq 28 (.tmp 22) (.const (.int .i64 0)) 28, none⟩]) (.cond (.tmp 23) (.seq (.reg [⟨some 24, .build 59 #[], none⟩,
    ⟨some 25, .move (.tmp 7), none⟩,
    ⟨none, .store 59 (.tmp 4) (.tmp 24), none⟩,
    ⟨some 5, .assign (.tmp 25), none⟩]) .ret) .skip)) (.seq (.reg [⟨some 27, .move (.tmp 6), none⟩,
    ⟨some 28, .fieldAddr 59 (.tmp 3) 1, none⟩,
    ⟨some 29, .load 25 (.tmp 28), none⟩,
    ⟨some 30, .fieldAddr 59 (.tmp 3) 0, none⟩,
    ⟨some 31, .load 3 (.tmp 30), none⟩,
    ⟨some 32, .call { callee := .value (.func 57), args := #[.tmp 27, .tmp 29, .tmp 31], argTypes := #[75, 25, 3] }, none⟩,
    ⟨some 26, .move (.tmp 32), none⟩,
    ⟨some 33, .extract (.tmp 26) 0, none⟩,
    ⟨some 34, .extract (.tmp 26) 1, none⟩,
    ⟨some 8, .assign (.tmp 33), none⟩,
    ⟨some 9, .assign (.tmp 34), none⟩]) (.seq (.reg [⟨some 10, .assign (.const (.slice none 0 0)), none⟩]) (.seq (.seq (.reg [⟨some 35, .fieldAddr 59 (.tmp 3) 0, none⟩,
    ⟨some 36, .load 3 (.tmp 35), none⟩,
    ⟨some 37, .move (.const (.int .i64 0)), none⟩]) (.block 0 (.loop (.seq (.reg [⟨some 38, .binOp .lss 3 (.tmp 37) (.tmp 36) 3, none⟩]) (.seq (.cond (.tmp 38) .skip (.exit 0)) (.seq (.block 1 (.seq (.reg [⟨some 39, .move (.tmp 37), none⟩,
    ⟨some 11, .assign (.tmp 39), none⟩]) (.seq (.seq (.reg [⟨some 40, .move (.tmp 9), none⟩,
    ⟨some 41, .move (.tmp 11), none⟩,
    ⟨some 42, .call { callee := .value (.func 58), args := #[.tmp 40, .tmp 41], argTypes := #[22, 3] }, none⟩]) (.cond (.tmp 42) (.exit 1) .skip)) (.seq (.reg [⟨some 43, .fieldAddr 59 (.tmp 3) 0, none⟩,
    ⟨some 44, .load 3 (.tmp 43), none⟩,
    ⟨some 45, .makeSlice 22 (.tmp 44) (.tmp 44), none⟩,
    ⟨some 12, .assign (.tmp 45), none⟩]) (.seq (.reg [⟨some 46, .move (.tmp 12), none⟩,
    ⟨some 47, .move (.tmp 11), none⟩,
    ⟨some 48, .indexAddr 22 (.tmp 46) (.tmp 47), none⟩,
    ⟨none, .store 3 (.tmp 48) (.const (.int .i64 1)), none⟩]) (.seq (.seq (.reg [⟨some 49, .move (.tmp 9), none⟩,
    ⟨some 50, .call { callee := .builtin .len, args := #[.tmp 49], argTypes := #[22] }, none⟩,
    ⟨some 51, .move (.const (.int .i64 0)), none⟩]) (.block 2 (.loop (.seq (.reg [⟨some 52, .binOp .lss 3 (.tmp 51) (.tmp 50) 3, none⟩]) (.seq (.cond (.tmp 52) .skip (.exit 2)) (.seq (.block 3 (.seq (.reg [⟨some 53, .move (.tmp 51), none⟩,
    ⟨some 54, .indexAddr 22 (.tmp 49) (.tmp 51), none⟩,
    ⟨some 55, .load 3 (.tmp 54), none⟩,
    ⟨some 13, .assign (.tmp 53), none⟩,
    ⟨some 14, .assign (.tmp 55), none⟩]) (.reg [⟨some 56, .move (.tmp 12), none⟩,
    ⟨some 57, .move (.tmp 14), none⟩,
    ⟨some 58, .move (.tmp 6), none⟩,
    ⟨some 59, .move (.tmp 8), none⟩,
    ⟨some 60, .move (.tmp 13), none⟩,
    ⟨some 61, .indexAddr 25 (.tmp 59) (.tmp 60), none⟩,
    ⟨some 62, .load 22 (.tmp 61), none⟩,
    ⟨some 63, .move (.tmp 11), none⟩,
    ⟨some 64, .indexAddr 22 (.tmp 62) (.tmp 63), none⟩,
    ⟨some 65, .load 3 (.tmp 64), none⟩,
    ⟨some 66, .call { callee := .value (.func 59), args := #[.tmp 58, .tmp 65], argTypes := #[75, 3] }, none⟩,
    ⟨some 67, .indexAddr 22 (.tmp 56) (.tmp 57), none⟩,
    ⟨none, .store 3 (.tmp 67) (.tmp 66), none⟩]))) (.reg [⟨some 68, .binOp .add 3 (.tmp 51) (.const (.int .i64 1)) 3, none⟩,
    ⟨some 51, .move (.tmp 68), none⟩]))))))) (.reg [⟨some 69, .move (.tmp 10), none⟩,
    ⟨some 70, .move (.tmp 12), none⟩,
    ⟨some 71, .buildSlice 25 1 #[(0, .tmp 70)], none⟩,
    ⟨some 72, .call { callee := .builtin .append, args := #[.tmp 69, .tmp 71], argTypes := #[25, 25] }, none⟩,
    ⟨some 10, .assign (.tmp 72), none⟩]))))))) (.reg [⟨some 73, .binOp .add 3 (.tmp 37) (.const (.int .i64 1)) 3, none⟩,
    ⟨some 37, .move (.tmp 73), none⟩]))))))) (.seq (.reg [⟨some 75, .move (.tmp 6), none⟩,
    ⟨some 76, .move (.tmp 10), none⟩,
    ⟨some 77, .fieldAddr 59 (.tmp 3) 0, none⟩,
    ⟨some 78, .load 3 (.tmp 77), none⟩,
    ⟨some 79, .call { callee := .value (.func 57), args := #[.tmp 75, .tmp 76, .tmp 78], argTypes := #[75, 25, 3] }, none⟩,
    ⟨some 74, .move (.tmp 79), none⟩,
    ⟨some 80, .extract (.tmp 74) 0, none⟩,
    ⟨some 81, .extract (.tmp 74) 1, none⟩,
    ⟨some 10, .assign (.tmp 80), none⟩]) (.seq (.reg [⟨some 82, .fieldAddr 59 (.tmp 3) 0, none⟩,
    ⟨some 83, .load 3 (.tmp 82), none⟩,
    ⟨some 84, .move (.tmp 10), none⟩,
    ⟨some 85, .build 59 #[(0, .tmp 83), (1, .tmp 84)], none⟩,
    ⟨none, .store 59 (.tmp 4) (.tmp 85), none⟩,
    ⟨some 5, .assign (.const (.int .i64 0)), none⟩]) .ret)))))))
theorem at41 {args : List AV} {H : AH} {Q : AV → AH → Prop} (hl : args.length ≤ 86) (h : swp Try.prog s41 (fin Try.prog [.cell 4 59, .tmp 5] Q) (env0 args) H) : AC Try.prog 41 args H Q :=
  AC.of (fun _ => []) Try.func41 rfl (by kernel_rfl) mixed (by kernel_rfl) (by kernel_rfl) rfl hl h
/-! ### function 42: codewright/code.gen -/
def s42 : SC :=
  .seq (.reg [⟨some 1, .box 27 (.tmp 0), none⟩,
    ⟨some 2, .alloc 59, none⟩]) (.seq (.reg [⟨some 3, .fieldAddr 27 (.tmp 1) 1, none⟩,
    ⟨some 4, .load 3 (.tmp 3), none⟩,
    ⟨some 5, .fieldAddr 27 (.tmp 1) 2, none⟩,
    ⟨some 6, .load 25 (.tmp 5), none⟩,
    ⟨some 7, .build 59 #[(0, .tmp 4), (1, .tmp 6)], none⟩,
    ⟨none, .store 59 (.tmp 2) (.tmp 7), none⟩]) .ret)
theorem at42 {args : List AV} {H : AH} {Q : AV → AH → Prop} (hl : args.length ≤ 8) (h : swp Try.prog s42 (fin Try.prog [.cell 2 59] Q) (env0 args) H) : AC Try.prog 42 args H Q :=
  AC.of (fun _ => []) Try.func42 rfl (by kernel_rfl) mixed (by kernel_rfl) (by kernel_rfl) rfl hl h
/-! ### function 43: codewright/code.of -/
def pl43 : Nat → Plan
  | 3 => [(0, []), (2, []), (3, []), (4, []), (5, []), (1, [3, 5]), (6, []), (7, []), (8, [])]
  | _ => []
def s43 : SC :=
  .seq (.reg [⟨some 3, .box 24 (.tmp 0), none⟩,
    ⟨some 4, .box 59 (.tmp 1), none⟩,
    ⟨some 6, .alloc 27, none⟩,
    ⟨some 7, .assign (.const (.int .i64 0)), none⟩]) (.seq (.seq (.reg [⟨some 8, .move (.tmp 2), none⟩,
    ⟨some 9, .binOp .neq 28 (.tmp 8) (.const (.int .i64 0)) 28, none⟩]) (.cond (.tmp 9) (.seq (.reg [⟨some 10, .build 27 #[], none⟩,
    ⟨some 11, .move (.tmp 2), none⟩,
    ⟨none, .store 27 (.tmp 6) (.tmp 10), none⟩,
    ⟨some 7, .assign (.tmp 11), none⟩]) .ret) .skip)) (.seq (.draw [(0, [], ⟨some 12, .load 24 (.tmp 3), none⟩),
    (2, [], ⟨some 14, .fieldAddr 59 (.tmp 4) 0, none⟩),
    (3, [], ⟨some 15, .load 3 (.tmp 14), none⟩),
    (4, [], ⟨some 16, .fieldAddr 59 (.tmp 4) 1, none⟩),
    (5, [], ⟨some 17, .load 25 (.tmp 16), none⟩),
    (1, [3, 5], ⟨some 13, .call { callee := .value (.func 60), args := #[.tmp 12], argTypes := #[24] }, none⟩),
    (6, [], ⟨some 18, .build 27 #[(0, .tmp 13), (1, .tmp 15), (2, .tmp 17)], none⟩),
    (7, [], ⟨none, .store 27 (.tmp 6) (.tmp 18), none⟩),
    (8, [], ⟨some 7, .assign (.const (.int .i64 0)), none⟩)]) .ret))
theorem at43 {args : List AV} {H : AH} {Q : AV → AH → Prop} (hl : args.length ≤ 19) (h : swp Try.prog s43 (fin Try.prog [.cell 6 27, .tmp 7] Q) (env0 args) H) : AC Try.prog 43 args H Q :=
  AC.of (pl43) Try.func43 rfl (by kernel_rfl) mixed (by kernel_rfl) (by kernel_rfl) rfl hl h
/-! ### function 44: codewright/codewrightref48.Dimensions -/
def pl44 : Nat → Plan
  | 5 => [(0, []), (1, []), (2, []), (3, []), (4, []), (5, []), (6, [2]), (7, []), (8, []), (9, [])]
  | _ => []
def s44 : SC :=
  .seq (.reg [⟨some 1, .box 27 (.tmp 0), none⟩,
    ⟨some 2, .assign (.const (.slice none 0 0)), none⟩]) (.seq (.reg [⟨some 5, .fieldAddr 27 (.tmp 1) 1, none⟩,
    ⟨some 6, .load 3 (.tmp 5), none⟩,
    ⟨some 7, .convert 3 67 (.tmp 6), none⟩,
    ⟨some 8, .binOp .shl 3 (.const (.int .i64 1)) (.tmp 7) 67, none⟩,
    ⟨some 9, .makeSlice 22 (.tmp 8) (.tmp 8), none⟩,
    ⟨some 3, .assign (.tmp 9), none⟩]) (.seq (.seq (.reg [⟨some 4, .assign (.const (.int .i64 0)), none⟩]) (.block 0 (.loop (.seq (.seq (.reg [⟨some 10, .move (.tmp 4), none⟩,
    ⟨some 11, .move (.tmp 3), none⟩,
    ⟨some 12, .call { callee := .builtin .len, args := #[.tmp 11], argTypes := #[22] }, none⟩,
    ⟨some 13, .binOp .lss 3 (.tmp 10) (.tmp 12) 3, none⟩]) (.cond (.tmp 13) .skip (.exit 0))) (.seq (.block 1 (.draw [(0, [], ⟨some 16, .move (.tmp 3), none⟩),
    (1, [], ⟨some 17, .move (.tmp 4), none⟩),
    (2, [], ⟨some 18, .load 27 (.tmp 1), none⟩),
    (3, [], ⟨some 19, .fieldAddr 27 (.tmp 1) 1, none⟩),
    (4, [], ⟨some 20, .load 3 (.tmp 19), none⟩),
    (5, [], ⟨some 21, .move (.tmp 4), none⟩),
    (6, [2], ⟨some 22, .call { callee := .value (.func 61), args := #[.tmp 20, .tmp 21], argTypes := #[3, 3] }, none⟩),
    (7, [], ⟨some 23, .call { callee := .value (.func 31), args := #[.tmp 18, .tmp 22], argTypes := #[27, 22] }, none⟩),
    (8, [], ⟨some 24, .indexAddr 22 (.tmp 16) (.tmp 17), none⟩),
    (9, [], ⟨none, .store 3 (.tmp 24) (.tmp 23), none⟩)])) (.reg [⟨some 14, .move (.tmp 4), none⟩,
    ⟨some 15, .binOp .add 3 (.tmp 14) (.const (.int .i64 1)) 3, none⟩,
    ⟨some 4, .assign (.tmp 15), none⟩])))))) (.seq (.reg [⟨some 25, .move (.tmp 3), none⟩,
    ⟨some 2, .assign (.tmp 25), none⟩]) .ret)))
theorem at44 {args : List AV} {H : AH} {Q : AV → AH → Prop} (hl : args.length ≤ 26) (h : swp Try.prog s44 (fin Try.prog [.tmp 2] Q) (env0 args) H) : AC Try.prog 44 args H Q :=
  AC.of (pl44) Try.func44 rfl (by kernel_rfl) mixed (by kernel_rfl) (by kernel_rfl) rfl hl h
/-! ### function 45: codewright/field.Check -/
def pl45 : Nat → Plan
  | 1 => [(0, []), (1, []), (2, []), (3, []), (4, []), (5, []), (6, []), (7, []), (8, []), (9, [4]), (10, []), (11, []), (12, [])]
  | _ => []
def s45 : SC :=
  .seq (.reg [⟨some 1, .box 24 (.tmp 0), none⟩,
    ⟨some 2, .assign (.const (.int .i64 0)), none⟩]) (.seq (.seq (.draw [(0, [], ⟨some 3, .load 24 (.tmp 1), none⟩),
    (1, [], ⟨some 4, .call { callee := .value (.func 62), args := #[.tmp 3], argTypes := #[24] }, none⟩),
    (2, [], ⟨some 5, .unOp .not 4 (.tmp 4), none⟩),
    (3, [], ⟨some 6, .move (.tmp 5), none⟩),
    (4, [], ⟨some 7, .load 24 (.tmp 1), some (6, false)⟩),
    (5, [], ⟨some 8, .fieldAddr 24 (.tmp 1) 0, some (6, false)⟩),
    (6, [], ⟨some 9, .load 3 (.tmp 8), some (6, false)⟩),
    (7, [], ⟨some 10, .fieldAddr 24 (.tmp 1) 1, some (6, false)⟩),
    (8, [], ⟨some 11, .load 3 (.tmp 10), some (6, false)⟩),
    (9, [4], ⟨some 12, .call { callee := .value (.func 64), args := #[.tmp 9, .tmp 11], argTypes := #[3, 3] }, some (6, false)⟩),
    (10, [], ⟨some 13, .call { callee := .value (.func 63), args := #[.tmp 7, .tmp 12], argTypes := #[24, 3] }, some (6, false)⟩),
    (11, [], ⟨some 14, .binOp .eql 22 (.tmp 13) (.const (.slice none 0 0)) 22, some (6, false)⟩),
    (12, [], ⟨some 15, .pick (.tmp 6) (.const (.bool true)) (.tmp 14), none⟩)]) (.cond (.tmp 15) (.seq (.reg [⟨some 2, .assign (.const (.int .i64 1)), none⟩]) .ret) .skip)) (.seq (.reg [⟨some 2, .assign (.const (.int .i64 0)), none⟩]) .ret))
theorem at45 {args : List AV} {H : AH} {Q : AV → AH → Prop} (hl : args.length ≤ 16) (h : swp Try.prog s45 (fin Try.prog [.tmp 2] Q) (env0 args) H) : AC Try.prog 45 args H Q :=
  AC.of (pl45) Try.func45 rfl (by kernel_rfl) mixed (by kernel_rfl) (by kernel_rfl) rfl hl h
/-! ### function 46: codewright/code.length -/
def s46 : SC :=
  .seq (.reg [⟨some 2, .assign (.const (.int .i64 0)), none⟩]) (.seq (.seq (.reg [⟨some 3, .move (.tmp 0), none⟩,
    ⟨some 4, .binOp .lss 3 (.tmp 3) (.const (.int .i64 1)) 3, none⟩,
    ⟨some 5, .move (.tmp 4), none⟩,
    ⟨some 6, .move (.tmp 0), some (5, false)⟩,
    ⟨some 7, .binOp .gtr 3 (.tmp 6) (.const (.int .i64 64)) 3, some (5, false)⟩,
    ⟨some 8, .pick (.tmp 5) (.const (.bool true)) (.tmp 7), none⟩]) (.cond (.tmp 8) (.seq (.reg [⟨some 2, .assign (.const (.int .i64 4)), none⟩]) .ret) .skip)) (.seq (.reg [⟨some 2, .assign (.const (.int .i64 0)), none⟩]) .ret))
theorem at46 {args : List AV} {H : AH} {Q : AV → AH → Prop} (hl : args.length ≤ 9) (h : swp Try.prog s46 (fin Try.prog [.tmp 2] Q) (env0 args) H) : AC Try.prog 46 args H Q :=
  AC.of (fun _ => []) Try.func46 rfl (by kernel_rfl) mixed (by kernel_rfl) (by kernel_rfl) rfl hl h
/-! ### function 47: codewright/space.Check -/
def s47 : SC :=
  .seq (.reg [⟨some 2, .box 24 (.tmp 0), none⟩,
    ⟨some 3, .box 59 (.tmp 1), none⟩,
    ⟨some 4, .assign (.const (.int .i64 0)), none⟩]) (.seq (.reg [⟨some 8, .load 24 (.tmp 2), none⟩,
    ⟨some 9, .load 59 (.tmp 3), none⟩,
    ⟨some 10, .call { callee := .value (.func 65), args := #[.tmp 8, .tmp 9], argTypes := #[24, 59] }, none⟩,
    ⟨some 7, .move (.tmp 10), none⟩,
    ⟨some 11, .extract (.tmp 7) 0, none⟩,
    ⟨some 12, .extract (.tmp 7) 1, none⟩,
    ⟨some 5, .alloc 86, none⟩,
    ⟨none, .store 86 (.tmp 5) (.tmp 11), none⟩,
    ⟨some 6, .assign (.tmp 12), none⟩]) (.seq (.reg [⟨some 13, .move (.tmp 6), none⟩,
    ⟨some 4, .assign (.tmp 13), none⟩]) .ret))
theorem at47 {args : List AV} {H : AH} {Q : AV → AH → Prop} (hl : args.length ≤ 14) (h : swp Try.prog s47 (fin Try.prog [.tmp 4] Q) (env0 args) H) : AC Try.prog 47 args H Q :=
  AC.of (fun _ => []) Try.func47 rfl (by kernel_rfl) mixed (by kernel_rfl) (by kernel_rfl) rfl hl h
/-! ### function 48: codewright/ordering.rank -/
def s48 : SC :=
  .seq (.reg [⟨some 2, .box 27 (.tmp 0), none⟩,
    ⟨some 4, .assign (.const (.int .i64 0)), none⟩]) (.seq (.reg [⟨some 5, .assign (.const (.slice none 0 0)), none⟩]) (.seq (.seq (.reg [⟨some 9, .fieldAddr 27 (.tmp 2) 1, none⟩,
    ⟨some 10, .load 3 (.tmp 9), none⟩,
    ⟨some 11, .move (.const (.int .i64 0)), none⟩]) (.block 0 (.loop (.seq (.reg [⟨some 12, .binOp .lss 3 (.tmp 11) (.tmp 10) 3, none⟩]) (.seq (.cond (.tmp 12) .skip (.exit 0)) (.seq (.block 1 (.seq (.reg [⟨some 13, .move (.tmp 11), none⟩,
    ⟨some 6, .assign (.tmp 13), none⟩]) (.seq (.reg [⟨some 14, .move (.tmp 1), none⟩,
    ⟨some 15, .move (.tmp 6), none⟩,
    ⟨some 16, .binOp .shr 52 (.tmp 14) (.tmp 15) 3, none⟩,
    ⟨some 17, .binOp .and 52 (.tmp 16) (.const (.int .u64 1)) 52, none⟩,
    ⟨some 18, .binOp .eql 52 (.tmp 17) (.const (.int .u64 1)) 52, none⟩]) (.cond (.tmp 18) (.reg [⟨some 19, .move (.tmp 5), none⟩,
    ⟨some 20, .move (.tmp 6), none⟩,
    ⟨some 21, .buildSlice 22 1 #[(0, .tmp 20)], none⟩,
    ⟨some 22, .call { callee := .builtin .append, args := #[.tmp 19, .tmp 21], argTypes := #[22, 22] }, none⟩,
    ⟨some 5, .assign (.tmp 22), none⟩]) .skip)))) (.reg [⟨some 23, .binOp .add 3 (.tmp 11) (.const (.int .i64 1)) 3, none⟩,
    ⟨some 11, .move (.tmp 23), none⟩]))))))) (.seq (.reg [⟨some 25, .load 27 (.tmp 2), none⟩,
    ⟨some 26, .move (.tmp 5), none⟩,
    ⟨some 27, .call { callee := .value (.func 66), args := #[.tmp 25, .tmp 26], argTypes := #[27, 22] }, none⟩,
    ⟨some 24, .move (.tmp 27), none⟩,
    ⟨some 28, .extract (.tmp 24) 0, none⟩,
    ⟨some 29, .extract (.tmp 24) 1, none⟩,
    ⟨some 7, .assign (.tmp 28), none⟩,
    ⟨some 8, .assign (.tmp 29), none⟩]) (.seq (.reg [⟨some 30, .move (.tmp 7), none⟩,
    ⟨some 4, .assign (.tmp 30), none⟩]) .ret))))
theorem at48 {args : List AV} {H : AH} {Q : AV → AH → Prop} (hl : args.length ≤ 31) (h : swp Try.prog s48 (fin Try.prog [.tmp 4] Q) (env0 args) H) : AC Try.prog 48 args H Q :=
  AC.of (fun _ => []) Try.func48 rfl (by kernel_rfl) mixed (by kernel_rfl) (by kernel_rfl) rfl hl h
/-! ### function 49: codewright/codewrightref48.rank -/
def s49 : SC :=
  .seq (.reg [⟨some 2, .box 27 (.tmp 0), none⟩,
    ⟨some 4, .assign (.const (.int .i64 0)), none⟩]) (.seq (.reg [⟨some 9, .buildSlice 25 0 #[], none⟩,
    ⟨some 5, .assign (.tmp 9), none⟩]) (.seq (.seq (.reg [⟨some 6, .assign (.const (.int .i64 0)), none⟩]) (.block 0 (.loop (.seq (.seq (.reg [⟨some 10, .move (.tmp 6), none⟩,
    ⟨some 11, .fieldAddr 27 (.tmp 2) 2, none⟩,
    ⟨some 12, .load 25 (.tmp 11), none⟩,
    ⟨some 13, .call { callee := .builtin .len, args := #[.tmp 12], argTypes := #[25] }, none⟩,
    ⟨some 14, .binOp .lss 3 (.tmp 10) (.tmp 13) 3, none⟩]) (.cond (.tmp 14) .skip (.exit 0))) (.seq (.block 1 (.reg [⟨some 17, .move (.tmp 5), none⟩,
    ⟨some 18, .fieldAddr 27 (.tmp 2) 2, none⟩,
    ⟨some 19, .load 25 (.tmp 18), none⟩,
    ⟨some 20, .move (.tmp 6), none⟩,
    ⟨some 21, .indexAddr 25 (.tmp 19) (.tmp 20), none⟩,
    ⟨some 22, .load 22 (.tmp 21), none⟩,
    ⟨some 23, .move (.tmp 1), none⟩,
    ⟨some 24, .call { callee := .value (.func 67), args := #[.tmp 22, .tmp 23], argTypes := #[22, 22] }, none⟩,
    ⟨some 25, .buildSlice 25 1 #[(0, .tmp 24)], none⟩,
    ⟨some 26, .call { callee := .builtin .append, args := #[.tmp 17, .tmp 25], argTypes := #[25, 25] }, none⟩,
    ⟨some 5, .assign (.tmp 26), none⟩])) (.reg [⟨some 15, .move (.tmp 6), none⟩,
    ⟨some 16, .binOp .add 3 (.tmp 15) (.const (.int .i64 1)) 3, none⟩,
    ⟨some 6, .assign (.tmp 16), none⟩])))))) (.seq (.reg [⟨some 28, .fieldAddr 27 (.tmp 2) 0, none⟩,
    ⟨some 29, .load 24 (.tmp 28), none⟩,
    ⟨some 30, .move (.tmp 5), none⟩,
    ⟨some 31, .move (.tmp 1), none⟩,
    ⟨some 32, .call { callee := .builtin .len, args := #[.tmp 31], argTypes := #[22] }, none⟩,
    ⟨some 33, .call { callee := .value (.func 54), args := #[.tmp 29, .tmp 30, .tmp 32], argTypes := #[24, 25, 3] }, none⟩,
    ⟨some 27, .move (.tmp 33), none⟩,
    ⟨some 34, .extract (.tmp 27) 0, none⟩,
    ⟨some 35, .extract (.tmp 27) 1, none⟩,
    ⟨some 7, .assign (.tmp 34), none⟩,
    ⟨some 8, .assign (.tmp 35), none⟩]) (.seq (.reg [⟨some 36, .move (.tmp 8), none⟩,
    ⟨some 37, .call { callee := .builtin .len, args := #[.tmp 36], argTypes := #[22] }, none⟩,
    ⟨some 4, .assign (.tmp 37), none⟩]) .ret))))
theorem at49 {args : List AV} {H : AH} {Q : AV → AH → Prop} (hl : args.length ≤ 38) (h : swp Try.prog s49 (fin Try.prog [.tmp 4] Q) (env0 args) H) : AC Try.prog 49 args H Q :=
  AC.of (fun _ => []) Try.func49 rfl (by kernel_rfl) mixed (by kernel_rfl) (by kernel_rfl) rfl hl h
/-! ### function 50: codewright/codewrightref04.Order -/
def s50 : SC :=
  .seq (.reg [⟨some 1, .box 24 (.tmp 0), none⟩,
    ⟨some 2, .assign (.const (.int .i64 0)), none⟩]) (.seq (.seq (.reg [⟨some 5, .fieldAddr 24 (.tmp 1) 0, none⟩,
    ⟨some 6, .load 3 (.tmp 5), none⟩,
    ⟨some 7, .binOp .lss 3 (.tmp 6) (.const (.int .i64 2)) 3, none⟩,
    ⟨some 8, .move (.tmp 7), none⟩,
    ⟨some 9, .fieldAddr 24 (.tmp 1) 1, some (8, false)⟩,
    ⟨some 10, .load 3 (.tmp 9), some (8, false)⟩,
    ⟨some 11, .binOp .lss 3 (.tmp 10) (.const (.int .i64 1)) 3, some (8, false)⟩,
    ⟨some 12, .pick (.tmp 8) (.const (.bool true)) (.tmp 11), none⟩,
    ⟨some 13, .move (.tmp 12), none⟩,
    ⟨some 14, .fieldAddr 24 (.tmp 1) 1, some (13, false)⟩,
    ⟨some 15, .load 3 (.tmp 14), some (13, false)⟩,
    ⟨some 16, .binOp .gtr 3 (.tmp 15) (.const (.int .i64 8)) 3, some (13, false)⟩,
    ⟨some 17, .pick (.tmp 13) (.const (.bool true)) (.tmp 16), none⟩]) (.cond (.tmp 17) (.seq (.reg [⟨some 2, .assign (.const (.int .i64 0)), none⟩]) .ret) .skip)) (.seq (.reg [⟨some 3, .assign (.const (.int .i64 1)), none⟩]) (.seq (.seq (.reg [⟨some 4, .assign (.const (.int .i64 0)), none⟩]) (.block 0 (.loop (.seq (.seq (.reg [⟨some 18, .move (.tmp 4), none⟩,
    ⟨some 19, .fieldAddr 24 (.tmp 1) 1, none⟩,
    ⟨some 20, .load 3 (.tmp 19), none⟩,
    ⟨some 21, .binOp .lss 3 (.tmp 18) (.tmp 20) 3, none⟩]) (.cond (.tmp 21) .skip (.exit 0))) (.seq (.block 1 (.seq (.seq (.reg [⟨some 24, .move (.tmp 3), none⟩,
    ⟨some 25, .fieldAddr 24 (.tmp 1) 0, none⟩,
    ⟨some 26, .load 3 (.tmp 25), none⟩,
    ⟨some 27, .binOp .quo 3 (.const (.int .i64 256)) (.tmp 26) 3, none⟩,
    ⟨some 28, .binOp .gtr 3 (.tmp 24) (.tmp 27) 3, none⟩]) (.cond (.tmp 28) (.seq (.reg [⟨some 2, .assign (.const (.int .i64 0)), none⟩]) .ret) .skip)) (.reg [⟨some 29, .move (.tmp 3), none⟩,
    ⟨some 30, .fieldAddr 24 (.tmp 1) 0, none⟩,
    ⟨some 31, .load 3 (.tmp 30), none⟩,
    ⟨some 32, .binOp .mul 3 (.tmp 29) (.tmp 31) 3, none⟩,
    ⟨some 3, .assign (.tmp 32), none⟩]))) (.reg [⟨some 22, .move (.tmp 4), none⟩,
    ⟨some 23, .binOp .add 3 (.tmp 22) (.const (.int .i64 1)) 3, none⟩,
    ⟨some 4, .assign (.tmp 23), none⟩])))))) (.seq (.reg [⟨some 33, .move (.tmp 3), none⟩,
    ⟨some 2, .assign (.tmp 33), none⟩]) .ret))))
theorem at50 {args : List AV} {H : AH} {Q : AV → AH → Prop} (hl : args.length ≤ 34) (h : swp Try.prog s50 (fin Try.prog [.tmp 2] Q) (env0 args) H) : AC Try.prog 50 args H Q :=
  AC.of (fun _ => []) Try.func50 rfl (by kernel_rfl) mixed (by kernel_rfl) (by kernel_rfl) rfl hl h
/-! ### function 51: codewright/codewrightref04.prime -/
def s51 : SC :=
  .seq (.reg [⟨some 2, .assign (.const (.bool false)), none⟩]) (.seq (.seq (.reg [⟨some 3, .assign (.const (.int .i64 2)), none⟩]) (.block 0 (.loop (.seq (.seq (.reg [⟨some 4, .move (.tmp 3), none⟩,
    ⟨some 5, .move (.tmp 0), none⟩,
    ⟨some 6, .binOp .lss 3 (.tmp 4) (.tmp 5) 3, none⟩]) (.cond (.tmp 6) .skip (.exit 0))) (.seq (.block 1 (.seq (.reg [⟨some 9, .move (.tmp 0), none⟩,
    ⟨some 10, .move (.tmp 3), none⟩,
    ⟨some 11, .binOp .rem 3 (.tmp 9) (.tmp 10) 3, none⟩,
    ⟨some 12, .binOp .eql 3 (.tmp 11) (.const (.int .i64 0)) 3, none⟩]) (.cond (.tmp 12) (.seq (.reg [⟨some 2, .assign (.const (.bool false)), none⟩]) .ret) .skip))) (.reg [⟨some 7, .move (.tmp 3), none⟩,
    ⟨some 8, .binOp .add 3 (.tmp 7) (.const (.int .i64 1)) 3, none⟩,
    ⟨some 3, .assign (.tmp 8), none⟩])))))) (.seq (.reg [⟨some 2, .assign (.const (.bool true)), none⟩]) .ret))
theorem at51 {args : List AV} {H : AH} {Q : AV → AH → Prop} (hl : args.length ≤ 13) (h : swp Try.prog s51 (fin Try.prog [.tmp 2] Q) (env0 args) H) : AC Try.prog 51 args H Q :=
  AC.of (fun _ => []) Try.func51 rfl (by kernel_rfl) mixed (by kernel_rfl) (by kernel_rfl) rfl hl h
/-! ### function 52: codewright/codewrightref04.irreducible -/
def s52 : SC :=
  .seq (.reg [⟨some 4, .assign (.const (.bool false)), none⟩]) (.seq (.reg [⟨some 5, .assign (.const (.int .i64 1)), none⟩]) (.seq (.seq (.reg [⟨some 6, .assign (.const (.int .i64 1)), none⟩]) (.block 0 (.loop (.seq (.seq (.reg [⟨some 8, .move (.tmp 6), none⟩,
    ⟨some 9, .binOp .mul 3 (.const (.int .i64 2)) (.tmp 8) 3, none⟩,
    ⟨some 10, .move (.tmp 0), none⟩,
    ⟨some 11, .call { callee := .builtin .len, args := #[.tmp 10], argTypes := #[22] }, none⟩,
    ⟨some 12, .binOp .leq 3 (.tmp 9) (.tmp 11) 3, none⟩]) (.cond (.tmp 12) .skip (.exit 0))) (.seq (.block 1 (.seq (.reg [⟨some 15, .move (.tmp 5), none⟩,
    ⟨some 16, .move (.tmp 1), none⟩,
    ⟨some 17, .binOp .mul 3 (.tmp 15) (.tmp 16) 3, none⟩,
    ⟨some 5, .assign (.tmp 17), none⟩]) (.seq (.reg [⟨some 7, .assign (.const (.int .i64 0)), none⟩]) (.block 2 (.loop (.seq (.seq (.reg [⟨some 18, .move (.tmp 7), none⟩,
    ⟨some 19, .move (.tmp 5), none⟩,
    ⟨some 20, .binOp .lss 3 (.tmp 18) (.tmp 19) 3, none⟩]) (.cond (.tmp 20) .skip (.exit 2))) (.seq (.block 3 (.seq (.reg [⟨some 23, .move (.tmp 7), none⟩,
    ⟨some 24, .move (.tmp 1), none⟩,
    ⟨some 25, .move (.tmp 6), none⟩,
    ⟨some 26, .call { callee := .value (.func 69), args := #[.tmp 23, .tmp 24, .tmp 25], argTypes := #[3, 3, 3] }, none⟩,
    ⟨some 27, .move (.tmp 0), none⟩,
    ⟨some 28, .move (.tmp 1), none⟩,
    ⟨some 29, .call { callee := .value (.func 68), args := #[.tmp 26, .tmp 27, .tmp 28], argTypes := #[22, 22, 3] }, none⟩]) (.cond (.tmp 29) (.seq (.reg [⟨some 4, .assign (.const (.bool false)), none⟩]) .ret) .skip))) (.reg [⟨some 21, .move (.tmp 7), none⟩,
    ⟨some 22, .binOp .add 3 (.tmp 21) (.const (.int .i64 1)) 3, none⟩,
    ⟨some 7, .assign (.tmp 22), none⟩])))))))) (.reg [⟨some 13, .move (.tmp 6), none⟩,
    ⟨some 14, .binOp .add 3 (.tmp 13) (.const (.int .i64 1)) 3, none⟩,
    ⟨some 6, .assign (.tmp 14), none⟩])))))) (.seq (.reg [⟨some 4, .assign (.const (.bool true)), none⟩]) .ret)))
theorem at52 {args : List AV} {H : AH} {Q : AV → AH → Prop} (hl : args.length ≤ 30) (h : swp Try.prog s52 (fin Try.prog [.tmp 4] Q) (env0 args) H) : AC Try.prog 52 args H Q :=
  AC.of (fun _ => []) Try.func52 rfl (by kernel_rfl) mixed (by kernel_rfl) (by kernel_rfl) rfl hl h
/-! ### function 53: codewright/codewrightref09.Check -/
def pl53 : Nat → Plan
  | 9 => [(0, []), (1, []), (2, []), (3, []), (4, []), (5, []), (6, []), (7, []), (8, [])]
  | 14 => [(0, []), (1, []), (2, []), (3, []), (4, []), (5, []), (6, []), (7, [])]
  | _ => []
def s53 : SC :=
  .seq (.reg [⟨some 2, .box 24 (.tmp 0), none⟩,
    ⟨some 3, .box 59 (.tmp 1), none⟩,
    ⟨some 4, .assign (.const (.int .i64 0)), none⟩]) (.seq (.reg [⟨some 8, .load 24 (.tmp 2), none⟩,
    ⟨some 9, .call { callee := .value (.func 32), args := #[.tmp 8], argTypes := #[24] }, none⟩,
    ⟨some 5, .assign (.tmp 9), none⟩]) (.seq (.seq (.reg [⟨some 10, .move (.tmp 5), none⟩,
    ⟨some 11, .binOp .neq 28 (.tmp 10) (.const (.int .i64 0)) 28, none⟩]) (.cond (.tmp 11) (.seq (.reg [⟨some 12, .move (.tmp 5), none⟩,
    ⟨some 4, .assign (.tmp 12), none⟩]) .ret) .skip)) (.seq (.seq (.reg [⟨some 13, .fieldAddr 59 (.tmp 3) 0, none⟩,
    ⟨some 14, .load 3 (.tmp 13), none⟩,
    ⟨some 15, .binOp .lss 3 (.tmp 14) (.const (.int .i64 0)) 3, none⟩,
    ⟨some 16, .move (.tmp 15), none⟩,
    ⟨some 17, .fieldAddr 59 (.tmp 3) 0, some (16, false)⟩,
    ⟨some 18, .load 3 (.tmp 17), some (16, false)⟩,
    ⟨some 19, .binOp .gtr 3 (.tmp 18) (.const (.int .i64 256)) 3, some (16, false)⟩,
    ⟨some 20, .pick (.tmp 16) (.const (.bool true)) (.tmp 19), none⟩,
    ⟨some 21, .move (.tmp 20), none⟩,
    ⟨some 22, .fieldAddr 59 (.tmp 3) 1, some (21, false)⟩,
    ⟨some 23, .load 25 (.tmp 22), some (21, false)⟩,
    ⟨some 24, .call { callee := .builtin .len, args := #[.tmp 23], argTypes := #[25] }, some (21, false)⟩,
    ⟨some 25, .binOp .gtr 3 (.tmp 24) (.const (.int .i64 256)) 3, some (21, false)⟩,
    ⟨some 26, .pick (.tmp 21) (.const (.bool true)) (.tmp 25), none⟩]) (.cond (.tmp 26) (.seq (.reg [⟨some 4, .assign (.const (.int .i64 3)), none⟩]) .ret) .skip)) (.seq (.seq (.reg [⟨some 6, .assign (.const (.int .i64 0)), none⟩]) (.block 0 (.loop (.seq (.seq (.reg [⟨some 27, .move (.tmp 6), none⟩,
    ⟨some 28, .fieldAddr 59 (.tmp 3) 1, none⟩,
    ⟨some 29, .load 25 (.tmp 28), none⟩,
    ⟨some 30, .call { callee := .builtin .len, args := #[.tmp 29], argTypes := #[25] }, none⟩,
    ⟨some 31, .binOp .lss 3 (.tmp 27) (.tmp 30) 3, none⟩]) (.cond (.tmp 31) .skip (.exit 0))) (.seq (.block 1 (.seq (.draw [(0, [], ⟨some 34, .fieldAddr 59 (.tmp 3) 1, none⟩),
    (1, [], ⟨some 35, .load 25 (.tmp 34), none⟩),
    (2, [], ⟨some 36, .move (.tmp 6), none⟩),
    (3, [], ⟨some 37, .indexAddr 25 (.tmp 35) (.tmp 36), none⟩),
    (4, [], ⟨some 38, .load 22 (.tmp 37), none⟩),
    (5, [], ⟨some 39, .call { callee := .builtin .len, args := #[.tmp 38], argTypes := #[22] }, none⟩),
    (6, [], ⟨some 40, .fieldAddr 59 (.tmp 3) 0, none⟩),
    (7, [], ⟨some 41, .load 3 (.tmp 40), none⟩),
    (8, [], ⟨some 42, .binOp .neq 3 (.tmp 39) (.tmp 41) 3, none⟩)]) (.cond (.tmp 42) (.seq (.reg [⟨some 4, .assign (.const (.int .i64 3)), none⟩]) .ret) .skip))) (.reg [⟨some 32, .move (.tmp 6), none⟩,
    ⟨some 33, .binOp .add 3 (.tmp 32) (.const (.int .i64 1)) 3, none⟩,
    ⟨some 6, .assign (.tmp 33), none⟩])))))) (.seq (.seq (.reg [⟨some 7, .assign (.const (.int .i64 0)), none⟩]) (.block 2 (.loop (.seq (.seq (.reg [⟨some 43, .move (.tmp 7), none⟩,
    ⟨some 44, .fieldAddr 59 (.tmp 3) 1, none⟩,
    ⟨some 45, .load 25 (.tmp 44), none⟩,
    ⟨some 46, .call { callee := .builtin .len, args := #[.tmp 45], argTypes := #[25] }, none⟩,
    ⟨some 47, .binOp .lss 3 (.tmp 43) (.tmp 46) 3, none⟩]) (.cond (.tmp 47) .skip (.exit 2))) (.seq (.block 3 (.seq (.draw [(0, [], ⟨some 50, .load 24 (.tmp 2), none⟩),
    (1, [], ⟨some 51, .fieldAddr 59 (.tmp 3) 1, none⟩),
    (2, [], ⟨some 52, .load 25 (.tmp 51), none⟩),
    (3, [], ⟨some 53, .move (.tmp 7), none⟩),
    (4, [], ⟨some 54, .indexAddr 25 (.tmp 52) (.tmp 53), none⟩),
    (5, [], ⟨some 55, .load 22 (.tmp 54), none⟩),
    (6, [], ⟨some 56, .call { callee := .value (.func 70), args := #[.tmp 50, .tmp 55], argTypes := #[24, 22] }, none⟩),
    (7, [], ⟨some 5, .assign (.tmp 56), none⟩)]) (.seq (.reg [⟨some 57, .move (.tmp 5), none⟩,
    ⟨some 58, .binOp .neq 28 (.tmp 57) (.const (.int .i64 0)) 28, none⟩]) (.cond (.tmp 58) (.seq (.reg [⟨some 59, .move (.tmp 5), none⟩,
    ⟨some 4, .assign (.tmp 59), none⟩]) .ret) .skip)))) (.reg [⟨some 48, .move (.tmp 7), none⟩,
    ⟨some 49, .binOp .add 3 (.tmp 48) (.const (.int .i64 1)) 3, none⟩,
    ⟨some 7, .assign (.tmp 49), none⟩])))))) (.seq (.reg [⟨some 4, .assign (.const (.int .i64 0)), none⟩]) .ret))))))
theorem at53 {args : List AV} {H : AH} {Q : AV → AH → Prop} (hl : args.length ≤ 60) (h : swp Try.prog s53 (fin Try.prog [.tmp 4] Q) (env0 args) H) : AC Try.prog 53 args H Q :=
  AC.of (pl53) Try.func53 rfl (by kernel_rfl) mixed (by kernel_rfl) (by kernel_rfl) rfl hl h
/-! ### function 54: codewright/codewrightref09.Canon -/
def s54 : SC :=
  .seq (.reg [⟨some 3, .box 24 (.tmp 0), none⟩,
    ⟨some 6, .assign (.const (.slice none 0 0)), none⟩,
    ⟨some 7, .assign (.const (.slice none 0 0)), none⟩]) (.seq (.reg [⟨some 11, .load 24 (.tmp 3), none⟩,
    ⟨some 12, .move (.tmp 1), none⟩,
    ⟨some 13, .move (.tmp 2), none⟩,
    ⟨some 14, .call { callee := .value (.func 71), args := #[.tmp 11, .tmp 12, .tmp 13], argTypes := #[24, 25, 3] }, none⟩,
    ⟨some 10, .move (.tmp 14), none⟩,
    ⟨some 15, .extract (.tmp 10) 0, none⟩,
    ⟨some 16, .extract (.tmp 10) 1, none⟩,
    ⟨some 8, .assign (.tmp 15), none⟩,
    ⟨some 9, .assign (.tmp 16), none⟩]) (.seq (.reg [⟨some 17, .move (.tmp 8), none⟩,
    ⟨some 18, .move (.tmp 9), none⟩,
    ⟨some 19, .call { callee := .builtin .len, args := #[.tmp 18], argTypes := #[22] }, none⟩,
    ⟨some 20, .slice 25 (.tmp 17) none (some (.tmp 19)) none, none⟩,
    ⟨some 21, .move (.tmp 9), none⟩,
    ⟨some 6, .assign (.tmp 20), none⟩,
    ⟨some 7, .assign (.tmp 21), none⟩]) .ret))
theorem at54 {args : List AV} {H : AH} {Q : AV → AH → Prop} (hl : args.length ≤ 22) (h : swp Try.prog s54 (fin Try.prog [.tmp 6, .tmp 7] Q) (env0 args) H) : AC Try.prog 54 args H Q :=
  AC.of (fun _ => []) Try.func54 rfl (by kernel_rfl) mixed (by kernel_rfl) (by kernel_rfl) rfl hl h
/-! ### function 55: codewright/codewrightref09.SameRows -/
def pl55 : Nat → Plan
  | 6 => [(0, []), (1, []), (2, []), (3, []), (4, []), (5, []), (6, []), (7, []), (8, []), (9, [])]
  | _ => []
def s55 : SC :=
  .seq (.reg [⟨some 4, .assign (.const (.bool false)), none⟩]) (.seq (.seq (.reg [⟨some 6, .move (.tmp 0), none⟩,
    ⟨some 7, .call { callee := .builtin .len, args := #[.tmp 6], argTypes := #[25] }, none⟩,
    ⟨some 8, .move (.tmp 1), none⟩,
    ⟨some 9, .call { callee := .builtin .len, args := #[.tmp 8], argTypes := #[25] }, none⟩,
    ⟨some 10, .binOp .neq 3 (.tmp 7) (.tmp 9) 3, none⟩]) (.cond (.tmp 10) (.seq (.reg [⟨some 4, .assign (.const (.bool false)), none⟩]) .ret) .skip)) (.seq (.seq (.reg [⟨some 5, .assign (.const (.int .i64 0)), none⟩]) (.block 0 (.loop (.seq (.seq (.reg [⟨some 11, .move (.tmp 5), none⟩,
    ⟨some 12, .move (.tmp 0), none⟩,
    ⟨some 13, .call { callee := .builtin .len, args := #[.tmp 12], argTypes := #[25] }, none⟩,
    ⟨some 14, .binOp .lss 3 (.tmp 11) (.tmp 13) 3, none⟩]) (.cond (.tmp 14) .skip (.exit 0))) (.seq (.block 1 (.seq (.draw [(0, [], ⟨some 17, .move (.tmp 0), none⟩),
    (1, [], ⟨some 18, .move (.tmp 5), none⟩),
    (2, [], ⟨some 19, .indexAddr 25 (.tmp 17) (.tmp 18), none⟩),
    (3, [], ⟨some 20, .load 22 (.tmp 19), none⟩),
    (4, [], ⟨some 21, .move (.tmp 1), none⟩),
    (5, [], ⟨some 22, .move (.tmp 5), none⟩),
    (6, [], ⟨some 23, .indexAddr 25 (.tmp 21) (.tmp 22), none⟩),
    (7, [], ⟨some 24, .load 22 (.tmp 23), none⟩),
    (8, [], ⟨some 25, .call { callee := .value (.func 72), args := #[.tmp 20, .tmp 24], argTypes := #[22, 22] }, none⟩),
    (9, [], ⟨some 26, .unOp .not 4 (.tmp 25), none⟩)]) (.cond (.tmp 26) (.seq (.reg [⟨some 4, .assign (.const (.bool false)), none⟩]) .ret) .skip))) (.reg [⟨some 15, .move (.tmp 5), none⟩,
    ⟨some 16, .binOp .add 3 (.tmp 15) (.const (.int .i64 1)) 3, none⟩,
    ⟨some 5, .assign (.tmp 16), none⟩])))))) (.seq (.reg [⟨some 4, .assign (.const (.bool true)), none⟩]) .ret)))
theorem at55 {args : List AV} {H : AH} {Q : AV → AH → Prop} (hl : args.length ≤ 27) (h : swp Try.prog s55 (fin Try.prog [.tmp 4] Q) (env0 args) H) : AC Try.prog 55 args H Q :=
  AC.of (pl55) Try.func55 rfl (by kernel_rfl) mixed (by kernel_rfl) (by kernel_rfl) rfl hl h
/-! ### function 56: codewright/matrix.open -/
def s56 : SC :=
  .seq (.reg [⟨some 2, .box 24 (.tmp 0), none⟩,
    ⟨some 4, .assign (.const (.pointer none)), none⟩,
    ⟨some 5, .assign (.const (.int .i64 0)), none⟩]) (.seq (.reg [⟨some 12, .load 24 (.tmp 2), none⟩,
    ⟨some 13, .call { callee := .value (.func 73), args := #[.tmp 12], argTypes := #[24] }, none⟩,
    ⟨some 11, .move (.tmp 13), none⟩,
    ⟨some 14, .extract (.tmp 11) 0, none⟩,
    ⟨some 15, .extract (.tmp 11) 1, none⟩,
    ⟨some 6, .assign (.tmp 14), none⟩,
    ⟨some 7, .assign (.tmp 15), none⟩]) (.seq (.seq (.reg [⟨some 16, .move (.tmp 7), none⟩,
    ⟨some 17, .binOp .neq 28 (.tmp 16) (.const (.int .i64 0)) 28, none⟩]) (.cond (.tmp 17) (.seq (.reg [⟨some 4, .assign (.const (.pointer none)), none⟩,
    ⟨some 5, .assign (.const (.int .i64 1)), none⟩]) .ret) .skip)) (.seq (.seq (.reg [⟨some 18, .move (.tmp 1), none⟩,
    ⟨some 19, .call { callee := .builtin .len, args := #[.tmp 18], argTypes := #[93] }, none⟩,
    ⟨some 20, .move (.const (.int .i64 0)), none⟩]) (.block 0 (.loop (.seq (.reg [⟨some 21, .binOp .lss 3 (.tmp 20) (.tmp 19) 3, none⟩]) (.seq (.cond (.tmp 21) .skip (.exit 0)) (.seq (.block 1 (.seq (.reg [⟨some 22, .indexAddr 93 (.tmp 18) (.tmp 20), none⟩,
    ⟨some 23, .load 59 (.tmp 22), none⟩,
    ⟨some 9, .alloc 59, none⟩,
    ⟨none, .store 59 (.tmp 9) (.tmp 23), none⟩]) (.seq (.reg [⟨some 24, .move (.tmp 6), none⟩,
    ⟨some 25, .load 59 (.tmp 9), none⟩,
    ⟨some 26, .call { callee := .value (.func 74), args := #[.tmp 24, .tmp 25], argTypes := #[75, 59] }, none⟩,
    ⟨some 10, .assign (.tmp 26), none⟩]) (.seq (.reg [⟨some 27, .move (.tmp 10), none⟩,
    ⟨some 28, .binOp .neq 28 (.tmp 27) (.const (.int .i64 0)) 28, none⟩]) (.cond (.tmp 28) (.seq (.reg [⟨some 29, .move (.tmp 10), none⟩,
    ⟨some 4, .assign (.const (.pointer none)), none⟩,
    ⟨some 5, .assign (.tmp 29), none⟩]) .ret) .skip))))) (.reg [⟨some 30, .binOp .add 3 (.tmp 20) (.const (.int .i64 1)) 3, none⟩,
    ⟨some 20, .move (.tmp 30), none⟩]))))))) (.seq (.reg [⟨some 31, .move (.tmp 6), none⟩,
    ⟨some 4, .assign (.tmp 31), none⟩,
    ⟨some 5, .assign (.const (.int .i64 0)), none⟩]) .ret))))
theorem at56 {args : List AV} {H : AH} {Q : AV → AH → Prop} (hl : args.length ≤ 32) (h : swp Try.prog s56 (fin Try.prog [.tmp 4, .tmp 5] Q) (env0 args) H) : AC Try.prog 56 args H Q :=
  AC.of (fun _ => []) Try.func56 rfl (by kernel_rfl) mixed (by kernel_rfl) (by kernel_rfl) rfl hl h
/-! ### function 57: codewright/matrix.canon -/
def s57 : SC :=
  .seq (.reg [⟨some 6, .assign (.const (.slice none 0 0)), none⟩,
    ⟨some 7, .assign (.const (.slice none 0 0)), none⟩]) (.seq (.reg [⟨some 11, .move (.tmp 1), none⟩,
    ⟨some 12, .call { callee := .value (.func 75), args := #[.tmp 11], argTypes := #[25] }, none⟩,
    ⟨some 8, .assign (.tmp 12), none⟩]) (.seq (.reg [⟨some 14, .move (.tmp 0), none⟩,
    ⟨some 15, .move (.tmp 8), none⟩,
    ⟨some 16, .move (.tmp 2), none⟩,
    ⟨some 17, .call { callee := .value (.func 76), args := #[.tmp 14, .tmp 15, .tmp 16, .const (.slice none 0 0)], argTypes := #[75, 25, 3, 25] }, none⟩,
    ⟨some 13, .move (.tmp 17), none⟩,
    ⟨some 18, .extract (.tmp 13) 0, none⟩,
    ⟨some 19, .extract (.tmp 13) 1, none⟩,
    ⟨some 9, .assign (.tmp 18), none⟩,
    ⟨some 10, .assign (.tmp 19), none⟩]) (.seq (.reg [⟨some 20, .move (.tmp 8), none⟩,
    ⟨some 21, .move (.tmp 9), none⟩,
    ⟨some 22, .call { callee := .builtin .len, args := #[.tmp 21], argTypes := #[22] }, none⟩,
    ⟨some 23, .move (.tmp 9), none⟩,
    ⟨some 24, .call { callee := .builtin .len, args := #[.tmp 23], argTypes := #[22] }, none⟩,
    ⟨some 25, .slice 25 (.tmp 20) none (some (.tmp 22)) (some (.tmp 24)), none⟩,
    ⟨some 26, .move (.tmp 9), none⟩,
    ⟨some 6, .assign (.tmp 25), none⟩,
    ⟨some 7, .assign (.tmp 26), none⟩]) .ret)))
theorem at57 {args : List AV} {H : AH} {Q : AV → AH → Prop} (hl : args.length ≤ 27) (h : swp Try.prog s57 (fin Try.prog [.tmp 6, .tmp 7] Q) (env0 args) H) : AC Try.prog 57 args H Q :=
  AC.of (fun _ => []) Try.func57 rfl (by kernel_rfl) mixed (by kernel_rfl) (by kernel_rfl) rfl hl h
/-! ### function 58: slices.Contains[[]int,int] -/
def s58 : SC :=
  .seq (.reg [⟨some 4, .assign (.const (.bool false)), none⟩]) (.seq (.reg [⟨some 5, .move (.tmp 0), none⟩,
    ⟨some 6, .move (.tmp 1), none⟩,
    ⟨some 7, .call { callee := .value (.func 77), args := #[.tmp 5, .tmp 6], argTypes := #[22, 3] }, none⟩,
    ⟨some 8, .binOp .geq 3 (.tmp 7) (.const (.int .i64 0)) 3, none⟩,
    ⟨some 4, .assign (.tmp 8), none⟩]) .ret)
theorem at58 {args : List AV} {H : AH} {Q : AV → AH → Prop} (hl : args.length ≤ 9) (h : swp Try.prog s58 (fin Try.prog [.tmp 4] Q) (env0 args) H) : AC Try.prog 58 args H Q :=
  AC.of (fun _ => []) Try.func58 rfl (by kernel_rfl) mixed (by kernel_rfl) (by kernel_rfl) rfl hl h
/-! ### function 59: (*codewright/field.GF).Neg -/
def pl59 : Nat → Plan
  | 4 => [(0, []), (1, []), (2, []), (3, []), (4, []), (5, []), (6, []), (7, []), (8, []), (9, []), (10, []), (11, []), (12, []), (13, []), (14, []), (15, []), (16, []), (17, []), (18, []), (19, []), (20, []), (21, []), (22, []), (23, [])]
  | _ => []
def s59 : SC :=
  .seq (.reg [⟨some 4, .assign (.const (.int .i64 0)), none⟩]) (.seq (.reg [⟨some 7, .move (.tmp 0), none⟩,
    ⟨some 8, .move (.tmp 1), none⟩,
    ⟨some 9, .call { callee := .value (.func 78), args := #[.tmp 7, .tmp 8], argTypes := #[75, 3] }, none⟩,
    ⟨some 1, .assign (.tmp 9), none⟩]) (.seq (.reg [⟨some 5, .assign (.const (.int .i64 0)), none⟩,
    ⟨some 6, .assign (.const (.int .i64 1)), none⟩]) (.seq (.block 0 (.loop (.seq (.seq (.reg [⟨some 10, .move (.tmp 1), none⟩,
    ⟨some 11, .binOp .gtr 3 (.tmp 10) (.const (.int .i64 0)) 3, none⟩]) (.cond (.tmp 11) .skip (.exit 0))) (.block 1 (.seq (.draw [(0, [], ⟨some 12, .move (.tmp 5), none⟩),
    (1, [], ⟨some 13, .move (.tmp 0), none⟩),
    (2, [], ⟨some 14, .nilCheck (.tmp 13), none⟩),
    (3, [], ⟨some 15, .fieldAddr 101 (.tmp 14) 0, none⟩),
    (4, [], ⟨some 16, .fieldAddr 24 (.tmp 15) 0, none⟩),
    (5, [], ⟨some 17, .load 3 (.tmp 16), none⟩),
    (6, [], ⟨some 18, .move (.tmp 1), none⟩),
    (7, [], ⟨some 19, .move (.tmp 0), none⟩),
    (8, [], ⟨some 20, .nilCheck (.tmp 19), none⟩),
    (9, [], ⟨some 21, .fieldAddr 101 (.tmp 20) 0, none⟩),
    (10, [], ⟨some 22, .fieldAddr 24 (.tmp 21) 0, none⟩),
    (11, [], ⟨some 23, .load 3 (.tmp 22), none⟩),
    (12, [], ⟨some 24, .binOp .rem 3 (.tmp 18) (.tmp 23) 3, none⟩),
    (13, [], ⟨some 25, .binOp .sub 3 (.tmp 17) (.tmp 24) 3, none⟩),
    (14, [], ⟨some 26, .move (.tmp 0), none⟩),
    (15, [], ⟨some 27, .nilCheck (.tmp 26), none⟩),
    (16, [], ⟨some 28, .fieldAddr 101 (.tmp 27) 0, none⟩),
    (17, [], ⟨some 29, .fieldAddr 24 (.tmp 28) 0, none⟩),
    (18, [], ⟨some 30, .load 3 (.tmp 29), none⟩),
    (19, [], ⟨some 31, .binOp .rem 3 (.tmp 25) (.tmp 30) 3, none⟩),
    (20, [], ⟨some 32, .move (.tmp 6), none⟩),
    (21, [], ⟨some 33, .binOp .mul 3 (.tmp 31) (.tmp 32) 3, none⟩),
    (22, [], ⟨some 34, .binOp .add 3 (.tmp 12) (.tmp 33) 3, none⟩),
    (23, [], ⟨some 5, .assign (.tmp 34), none⟩)]) (.seq (.reg [⟨some 35, .move (.tmp 6), none⟩,
    ⟨some 36, .move (.tmp 0), none⟩,
    ⟨some 37, .nilCheck (.tmp 36), none⟩,
    ⟨some 38, .fieldAddr 101 (.tmp 37) 0, none⟩,
    ⟨some 39, .fieldAddr 24 (.tmp 38) 0, none⟩,
    ⟨some 40, .load 3 (.tmp 39), none⟩,
    ⟨some 41, .binOp .mul 3 (.tmp 35) (.tmp 40) 3, none⟩,
    ⟨some 6, .assign (.tmp 41), none⟩]) (.reg [⟨some 42, .move (.tmp 1), none⟩,
    ⟨some 43, .move (.tmp 0), none⟩,
    ⟨some 44, .nilCheck (.tmp 43), none⟩,
    ⟨some 45, .fieldAddr 101 (.tmp 44) 0, none⟩,
    ⟨some 46, .fieldAddr 24 (.tmp 45) 0, none⟩,
    ⟨some 47, .load 3 (.tmp 46), none⟩,
    ⟨some 48, .binOp .quo 3 (.tmp 42) (.tmp 47) 3, none⟩,
    ⟨some 1, .assign (.tmp 48), none⟩]))))))) (.seq (.reg [⟨some 49, .move (.tmp 5), none⟩,
    ⟨some 4, .assign (.tmp 49), none⟩]) .ret))))
theorem at59 {args : List AV} {H : AH} {Q : AV → AH → Prop} (hl : args.length ≤ 50) (h : swp Try.prog s59 (fin Try.prog [.tmp 4] Q) (env0 args) H) : AC Try.prog 59 args H Q :=
  AC.of (pl59) Try.func59 rfl (by kernel_rfl) mixed (by kernel_rfl) (by kernel_rfl) rfl hl h
/-! ### function 60: codewright/code.own -/
def s60 : SC :=
  .seq (.reg [⟨some 1, .box 24 (.tmp 0), none⟩,
    ⟨some 2, .alloc 24, none⟩]) (.seq (.reg [⟨some 3, .fieldAddr 24 (.tmp 1) 2, none⟩,
    ⟨some 4, .load 22 (.tmp 3), none⟩,
    ⟨some 5, .call { callee := .value (.func 79), args := #[.tmp 4], argTypes := #[22] }, none⟩,
    ⟨some 6, .fieldAddr 24 (.tmp 1) 2, none⟩,
    ⟨none, .store 22 (.tmp 6) (.tmp 5), none⟩]) (.seq (.reg [⟨some 7, .load 24 (.tmp 1), none⟩,
    ⟨none, .store 24 (.tmp 2) (.tmp 7), none⟩]) .ret))
theorem at60 {args : List AV} {H : AH} {Q : AV → AH → Prop} (hl : args.length ≤ 8) (h : swp Try.prog s60 (fin Try.prog [.cell 2 24] Q) (env0 args) H) : AC Try.prog 60 args H Q :=
  AC.of (fun _ => []) Try.func60 rfl (by kernel_rfl) mixed (by kernel_rfl) (by kernel_rfl) rfl hl h
/-! ### function 61: codewright/codewrightref48.members -/
def s61 : SC :=
  .seq (.reg [⟨some 4, .assign (.const (.slice none 0 0)), none⟩]) (.seq (.reg [⟨some 7, .buildSlice 22 0 #[], none⟩,
    ⟨some 5, .assign (.tmp 7), none⟩]) (.seq (.seq (.reg [⟨some 6, .assign (.const (.int .i64 0)), none⟩]) (.block 0 (.loop (.seq (.seq (.reg [⟨some 8, .move (.tmp 6), none⟩,
    ⟨some 9, .move (.tmp 0), none⟩,
    ⟨some 10, .binOp .lss 3 (.tmp 8) (.tmp 9) 3, none⟩]) (.cond (.tmp 10) .skip (.exit 0))) (.seq (.block 1 (.seq (.reg [⟨some 13, .move (.tmp 1), none⟩,
    ⟨some 14, .move (.tmp 6), none⟩,
    ⟨some 15, .convert 3 67 (.tmp 14), none⟩,
    ⟨some 16, .binOp .shr 3 (.tmp 13) (.tmp 15) 67, none⟩,
    ⟨some 17, .binOp .and 3 (.tmp 16) (.const (.int .i64 1)) 3, none⟩,
    ⟨some 18, .binOp .eql 3 (.tmp 17) (.const (.int .i64 1)) 3, none⟩]) (.cond (.tmp 18) (.reg [⟨some 19, .move (.tmp 5), none⟩,
    ⟨some 20, .move (.tmp 6), none⟩,
    ⟨some 21, .buildSlice 22 1 #[(0, .tmp 20)], none⟩,
    ⟨some 22, .call { callee := .builtin .append, args := #[.tmp 19, .tmp 21], argTypes := #[22, 22] }, none⟩,
    ⟨some 5, .assign (.tmp 22), none⟩]) .skip))) (.reg [⟨some 11, .move (.tmp 6), none⟩,
    ⟨some 12, .binOp .add 3 (.tmp 11) (.const (.int .i64 1)) 3, none⟩,
    ⟨some 6, .assign (.tmp 12), none⟩])))))) (.seq (.reg [⟨some 23, .move (.tmp 5), none⟩,
    ⟨some 4, .assign (.tmp 23), none⟩]) .ret)))
theorem at61 {args : List AV} {H : AH} {Q : AV → AH → Prop} (hl : args.length ≤ 24) (h : swp Try.prog s61 (fin Try.prog [.tmp 4] Q) (env0 args) H) : AC Try.prog 61 args H Q :=
  AC.of (fun _ => []) Try.func61 rfl (by kernel_rfl) mixed (by kernel_rfl) (by kernel_rfl) rfl hl h
/-! ### function 62: codewright/field.shape -/
def s62 : SC :=
  .seq (.reg [⟨some 1, .box 24 (.tmp 0), none⟩,
    ⟨some 2, .assign (.const (.bool false)), none⟩]) (.seq (.seq (.reg [⟨some 5, .fieldAddr 24 (.tmp 1) 0, none⟩,
    ⟨some 6, .load 3 (.tmp 5), none⟩,
    ⟨some 7, .fieldAddr 24 (.tmp 1) 1, none⟩,
    ⟨some 8, .load 3 (.tmp 7), none⟩,
    ⟨some 9, .call { callee := .value (.func 64), args := #[.tmp 6, .tmp 8], argTypes := #[3, 3] }, none⟩,
    ⟨some 10, .binOp .eql 3 (.tmp 9) (.const (.int .i64 0)) 3, none⟩,
    ⟨some 11, .move (.tmp 10), none⟩,
    ⟨some 12, .fieldAddr 24 (.tmp 1) 0, some (11, false)⟩,
    ⟨some 13, .load 3 (.tmp 12), some (11, false)⟩,
    ⟨some 14, .call { callee := .value (.func 80), args := #[.tmp 13], argTypes := #[3] }, some (11, false)⟩,
    ⟨some 15, .unOp .not 4 (.tmp 14), some (11, false)⟩,
    ⟨some 16, .pick (.tmp 11) (.const (.bool true)) (.tmp 15), none⟩]) (.cond (.tmp 16) (.seq (.reg [⟨some 2, .assign (.const (.bool false)), none⟩]) .ret) .skip)) (.seq (.seq (.reg [⟨some 17, .fieldAddr 24 (.tmp 1) 1, none⟩,
    ⟨some 18, .load 3 (.tmp 17), none⟩,
    ⟨some 19, .binOp .eql 3 (.tmp 18) (.const (.int .i64 1)) 3, none⟩]) (.cond (.tmp 19) (.seq (.reg [⟨some 20, .fieldAddr 24 (.tmp 1) 2, none⟩,
    ⟨some 21, .load 22 (.tmp 20), none⟩,
    ⟨some 22, .call { callee := .builtin .len, args := #[.tmp 21], argTypes := #[22] }, none⟩,
    ⟨some 23, .binOp .eql 3 (.tmp 22) (.const (.int .i64 0)) 3, none⟩,
    ⟨some 2, .assign (.tmp 23), none⟩]) .ret) .skip)) (.seq (.seq (.reg [⟨some 24, .fieldAddr 24 (.tmp 1) 2, none⟩,
    ⟨some 25, .load 22 (.tmp 24), none⟩,
    ⟨some 26, .call { callee := .builtin .len, args := #[.tmp 25], argTypes := #[22] }, none⟩,
    ⟨some 27, .fieldAddr 24 (.tmp 1) 1, none⟩,
    ⟨some 28, .load 3 (.tmp 27), none⟩,
    ⟨some 29, .binOp .neq 3 (.tmp 26) (.tmp 28) 3, none⟩]) (.cond (.tmp 29) (.seq (.reg [⟨some 2, .assign (.const (.bool false)), none⟩]) .ret) .skip)) (.seq (.seq (.reg [⟨some 30, .fieldAddr 24 (.tmp 1) 2, none⟩,
    ⟨some 31, .load 22 (.tmp 30), none⟩,
    ⟨some 32, .call { callee := .builtin .len, args := #[.tmp 31], argTypes := #[22] }, none⟩,
    ⟨some 33, .move (.const (.int .i64 0)), none⟩]) (.block 0 (.loop (.seq (.reg [⟨some 34, .binOp .lss 3 (.tmp 33) (.tmp 32) 3, none⟩]) (.seq (.cond (.tmp 34) .skip (.exit 0)) (.seq (.block 1 (.seq (.reg [⟨some 35, .indexAddr 22 (.tmp 31) (.tmp 33), none⟩,
    ⟨some 36, .load 3 (.tmp 35), none⟩,
    ⟨some 4, .assign (.tmp 36), none⟩]) (.seq (.reg [⟨some 37, .move (.tmp 4), none⟩,
    ⟨some 38, .binOp .lss 3 (.tmp 37) (.const (.int .i64 0)) 3, none⟩,
    ⟨some 39, .move (.tmp 38), none⟩,
    ⟨some 40, .move (.tmp 4), some (39, false)⟩,
    ⟨some 41, .fieldAddr 24 (.tmp 1) 0, some (39, false)⟩,
    ⟨some 42, .load 3 (.tmp 41), some (39, false)⟩,
    ⟨some 43, .binOp .geq 3 (.tmp 40) (.tmp 42) 3, some (39, false)⟩,
    ⟨some 44, .pick (.tmp 39) (.const (.bool true)) (.tmp 43), none⟩]) (.cond (.tmp 44) (.seq (.reg [⟨some 2, .assign (.const (.bool false)), none⟩]) .ret) .skip)))) (.reg [⟨some 45, .binOp .add 3 (.tmp 33) (.const (.int .i64 1)) 3, none⟩,
    ⟨some 33, .move (.tmp 45), none⟩]))))))) (.seq (.reg [⟨some 2, .assign (.const (.bool true)), none⟩]) .ret)))))
theorem at62 {args : List AV} {H : AH} {Q : AV → AH → Prop} (hl : args.length ≤ 46) (h : swp Try.prog s62 (fin Try.prog [.tmp 2] Q) (env0 args) H) : AC Try.prog 62 args H Q :=
  AC.of (fun _ => []) Try.func62 rfl (by kernel_rfl) mixed (by kernel_rfl) (by kernel_rfl) rfl hl h
/-! ### function 63: codewright/field.generator -/
def pl63 : Nat → Plan
  | 5 => [(0, []), (1, []), (2, []), (3, []), (4, []), (5, []), (6, []), (7, []), (8, []), (9, []), (10, []), (11, []), (12, []), (13, []), (14, []), (15, [])]
  | _ => []
def s63 : SC :=
  .seq (.reg [⟨some 2, .box 24 (.tmp 0), none⟩,
    ⟨some 4, .assign (.const (.slice none 0 0)), none⟩]) (.seq (.seq (.reg [⟨some 5, .assign (.const (.int .i64 1)), none⟩]) (.block 0 (.loop (.seq (.seq (.reg [⟨some 7, .move (.tmp 5), none⟩,
    ⟨some 8, .move (.tmp 1), none⟩,
    ⟨some 9, .binOp .lss 3 (.tmp 7) (.tmp 8) 3, none⟩]) (.cond (.tmp 9) .skip (.exit 0))) (.seq (.block 1 (.seq (.reg [⟨some 12, .load 24 (.tmp 2), none⟩,
    ⟨some 13, .move (.tmp 1), none⟩,
    ⟨some 14, .move (.tmp 5), none⟩,
    ⟨some 15, .call { callee := .value (.func 81), args := #[.tmp 12, .tmp 13, .tmp 14], argTypes := #[24, 3, 3] }, none⟩,
    ⟨some 6, .assign (.tmp 15), none⟩]) (.seq (.draw [(0, [], ⟨some 16, .move (.tmp 6), none⟩),
    (1, [], ⟨some 17, .call { callee := .builtin .len, args := #[.tmp 16], argTypes := #[22] }, none⟩),
    (2, [], ⟨some 18, .move (.tmp 1), none⟩),
    (3, [], ⟨some 19, .binOp .sub 3 (.tmp 18) (.const (.int .i64 1)) 3, none⟩),
    (4, [], ⟨some 20, .binOp .eql 3 (.tmp 17) (.tmp 19) 3, none⟩),
    (5, [], ⟨some 21, .move (.tmp 20), none⟩),
    (6, [], ⟨some 22, .load 24 (.tmp 2), some (21, true)⟩),
    (7, [], ⟨some 23, .move (.tmp 6), some (21, true)⟩),
    (8, [], ⟨some 24, .move (.tmp 1), some (21, true)⟩),
    (9, [], ⟨some 25, .binOp .sub 3 (.tmp 24) (.const (.int .i64 2)) 3, some (21, true)⟩),
    (10, [], ⟨some 26, .indexAddr 22 (.tmp 23) (.tmp 25), some (21, true)⟩),
    (11, [], ⟨some 27, .load 3 (.tmp 26), some (21, true)⟩),
    (12, [], ⟨some 28, .move (.tmp 5), some (21, true)⟩),
    (13, [], ⟨some 29, .call { callee := .value (.func 82), args := #[.tmp 22, .tmp 27, .tmp 28], argTypes := #[24, 3, 3] }, some (21, true)⟩),
    (14, [], ⟨some 30, .binOp .eql 3 (.tmp 29) (.const (.int .i64 1)) 3, some (21, true)⟩),
    (15, [], ⟨some 31, .pick (.tmp 21) (.tmp 30) (.const (.bool false)), none⟩)]) (.cond (.tmp 31) (.seq (.reg [⟨some 32, .move (.tmp 6), none⟩,
    ⟨some 4, .assign (.tmp 32), none⟩]) .ret) .skip)))) (.reg [⟨some 10, .move (.tmp 5), none⟩,
    ⟨some 11, .binOp .add 3 (.tmp 10) (.const (.int .i64 1)) 3, none⟩,
    ⟨some 5, .assign (.tmp 11), none⟩])))))) (.seq (.reg [⟨some 4, .assign (.const (.slice none 0 0)), none⟩]) .ret))
theorem at63 {args : List AV} {H : AH} {Q : AV → AH → Prop} (hl : args.length ≤ 33) (h : swp Try.prog s63 (fin Try.prog [.tmp 4] Q) (env0 args) H) : AC Try.prog 63 args H Q :=
  AC.of (pl63) Try.func63 rfl (by kernel_rfl) mixed (by kernel_rfl) (by kernel_rfl) rfl hl h
/-! ### function 64: codewright/field.order -/
def s64 : SC :=
  .seq (.reg [⟨some 4, .assign (.const (.int .i64 0)), none⟩]) (.seq (.seq (.reg [⟨some 6, .move (.tmp 0), none⟩,
    ⟨some 7, .binOp .lss 3 (.tmp 6) (.const (.int .i64 2)) 3, none⟩,
    ⟨some 8, .move (.tmp 7), none⟩,
    ⟨some 9, .move (.tmp 0), some (8, false)⟩,
    ⟨some 10, .binOp .gtr 3 (.tmp 9) (.const (.int .i64 256)) 3, some (8, false)⟩,
    ⟨some 11, .pick (.tmp 8) (.const (.bool true)) (.tmp 10), none⟩,
    ⟨some 12, .move (.tmp 11), none⟩,
    ⟨some 13, .move (.tmp 1), some (12, false)⟩,
    ⟨some 14, .binOp .lss 3 (.tmp 13) (.const (.int .i64 1)) 3, some (12, false)⟩,
    ⟨some 15, .pick (.tmp 12) (.const (.bool true)) (.tmp 14), none⟩,
    ⟨some 16, .move (.tmp 15), none⟩,
    ⟨some 17, .move (.tmp 1), some (16, false)⟩,
    ⟨some 18, .binOp .gtr 3 (.tmp 17) (.const (.int .i64 8)) 3, some (16, false)⟩,
    ⟨some 19, .pick (.tmp 16) (.const (.bool true)) (.tmp 18), none⟩]) (.cond (.tmp 19) (.seq (.reg [⟨some 4, .assign (.const (.int .i64 0)), none⟩]) .ret) .skip)) (.seq (.reg [⟨some 5, .assign (.const (.int .i64 1)), none⟩]) (.seq (.seq (.reg [⟨some 20, .move (.tmp 1), none⟩,
    ⟨some 21, .move (.const (.int .i64 0)), none⟩]) (.block 0 (.loop (.seq (.reg [⟨some 22, .binOp .lss 3 (.tmp 21) (.tmp 20) 3, none⟩]) (.seq (.cond (.tmp 22) .skip (.exit 0)) (.seq (.block 1 (.seq (.reg [⟨some 23, .move (.tmp 5), none⟩,
    ⟨some 24, .move (.tmp 0), none⟩,
    ⟨some 25, .binOp .mul 3 (.tmp 23) (.tmp 24) 3, none⟩,
    ⟨some 5, .assign (.tmp 25), none⟩]) (.seq (.reg [⟨some 26, .move (.tmp 5), none⟩,
    ⟨some 27, .binOp .gtr 3 (.tmp 26) (.const (.int .i64 256)) 3, none⟩]) (.cond (.tmp 27) (.seq (.reg [⟨some 4, .assign (.const (.int .i64 0)), none⟩]) .ret) .skip)))) (.reg [⟨some 28, .binOp .add 3 (.tmp 21) (.const (.int .i64 1)) 3, none⟩,
    ⟨some 21, .move (.tmp 28), none⟩]))))))) (.seq (.reg [⟨some 29, .move (.tmp 5), none⟩,
    ⟨some 4, .assign (.tmp 29), none⟩]) .ret))))
theorem at64 {args : List AV} {H : AH} {Q : AV → AH → Prop} (hl : args.length ≤ 30) (h : swp Try.prog s64 (fin Try.prog [.tmp 4] Q) (env0 args) H) : AC Try.prog 64 args H Q :=
  AC.of (fun _ => []) Try.func64 rfl (by kernel_rfl) mixed (by kernel_rfl) (by kernel_rfl) rfl hl h
/-! ### function 65: codewright/space.open -/
def s65 : SC :=
  .seq (.reg [⟨some 2, .box 24 (.tmp 0), none⟩,
    ⟨some 3, .box 59 (.tmp 1), none⟩,
    ⟨some 4, .alloc 86, none⟩,
    ⟨some 5, .assign (.const (.int .i64 0)), none⟩]) (.seq (.reg [⟨some 11, .load 24 (.tmp 2), none⟩,
    ⟨some 12, .load 59 (.tmp 3), none⟩,
    ⟨some 13, .call { callee := .value (.func 83), args := #[.tmp 11, .tmp 12], argTypes := #[24, 59] }, none⟩,
    ⟨some 10, .move (.tmp 13), none⟩,
    ⟨some 14, .extract (.tmp 10) 0, none⟩,
    ⟨some 15, .extract (.tmp 10) 1, none⟩,
    ⟨some 16, .extract (.tmp 10) 2, none⟩,
    ⟨some 6, .alloc 59, none⟩,
    ⟨none, .store 59 (.tmp 6) (.tmp 14), none⟩,
    ⟨some 7, .assign (.tmp 15), none⟩,
    ⟨some 8, .assign (.tmp 16), none⟩]) (.seq (.seq (.reg [⟨some 17, .move (.tmp 8), none⟩,
    ⟨some 18, .binOp .neq 28 (.tmp 17) (.const (.int .i64 0)) 28, none⟩]) (.cond (.tmp 18) (.seq (.reg [⟨some 19, .build 86 #[], none⟩,
    ⟨some 20, .move (.tmp 8), none⟩,
    ⟨none, .store 86 (.tmp 4) (.tmp 19), none⟩,
    ⟨some 5, .assign (.tmp 20), none⟩]) .ret) .skip)) (.seq (.seq (.reg [⟨some 21, .fieldAddr 59 (.tmp 6) 1, none⟩,
    ⟨some 22, .load 25 (.tmp 21), none⟩,
    ⟨some 23, .fieldAddr 59 (.tmp 3) 1, none⟩,
    ⟨some 24, .load 25 (.tmp 23), none⟩,
    ⟨some 25, .call { callee := .value (.func 84), args := #[.tmp 22, .tmp 24, .func 37], argTypes := #[25, 25, 40] }, none⟩,
    ⟨some 26, .unOp .not 4 (.tmp 25), none⟩]) (.cond (.tmp 26) (.seq (.reg [⟨some 27, .build 86 #[], none⟩,
    ⟨none, .store 86 (.tmp 4) (.tmp 27), none⟩,
    ⟨some 5, .assign (.const (.int .i64 5)), none⟩]) .ret) .skip)) (.seq (.reg [⟨some 29, .load 24 (.tmp 2), none⟩,
    ⟨some 30, .call { callee := .value (.func 73), args := #[.tmp 29], argTypes := #[24] }, none⟩,
    ⟨some 28, .move (.tmp 30), none⟩,
    ⟨some 31, .extract (.tmp 28) 0, none⟩,
    ⟨some 32, .extract (.tmp 28) 1, none⟩,
    ⟨some 9, .assign (.tmp 31), none⟩,
    ⟨some 8, .assign (.tmp 32), none⟩]) (.seq (.reg [⟨some 33, .move (.tmp 9), none⟩,
    ⟨some 34, .load 59 (.tmp 3), none⟩,
    ⟨some 35, .move (.tmp 7), none⟩,
    ⟨some 36, .build 86 #[(0, .tmp 33), (1, .tmp 34), (2, .tmp 35)], none⟩,
    ⟨some 37, .move (.tmp 8), none⟩,
    ⟨none, .store 86 (.tmp 4) (.tmp 36), none⟩,
    ⟨some 5, .assign (.tmp 37), none⟩]) .ret)))))
theorem at65 {args : List AV} {H : AH} {Q : AV → AH → Prop} (hl : args.length ≤ 38) (h : swp Try.prog s65 (fin Try.prog [.cell 4 86, .tmp 5] Q) (env0 args) H) : AC Try.prog 65 args H Q :=
  AC.of (fun _ => []) Try.func65 rfl (by kernel_rfl) mixed (by kernel_rfl) (by kernel_rfl) rfl hl h
/-! ### function 66: codewright/infoset.Rank -/
def s66 : SC :=
  .seq (.reg [⟨some 2, .box 27 (.tmp 0), none⟩,
    ⟨some 4, .assign (.const (.int .i64 0)), none⟩,
    ⟨some 5, .assign (.const (.int .i64 0)), none⟩]) (.seq (.reg [⟨some 9, .load 27 (.tmp 2), none⟩,
    ⟨some 10, .call { callee := .value (.func 85), args := #[.tmp 9], argTypes := #[27] }, none⟩,
    ⟨some 8, .move (.tmp 10), none⟩,
    ⟨some 11, .extract (.tmp 8) 0, none⟩,
    ⟨some 12, .extract (.tmp 8) 1, none⟩,
    ⟨some 6, .assign (.tmp 11), none⟩,
    ⟨some 7, .assign (.tmp 12), none⟩]) (.seq (.seq (.reg [⟨some 13, .move (.tmp 7), none⟩,
    ⟨some 14, .binOp .eql 28 (.tmp 13) (.const (.int .i64 0)) 28, none⟩]) (.cond (.tmp 14) (.reg [⟨some 15, .load 27 (.tmp 2), none⟩,
    ⟨some 16, .move (.tmp 1), none⟩,
    ⟨some 17, .buildSlice 25 1 #[(0, .tmp 16)], none⟩,
    ⟨some 18, .call { callee := .value (.func 86), args := #[.tmp 15, .tmp 17], argTypes := #[27, 25] }, none⟩,
    ⟨some 7, .assign (.tmp 18), none⟩]) .skip)) (.seq (.seq (.reg [⟨some 19, .move (.tmp 7), none⟩,
    ⟨some 20, .binOp .neq 28 (.tmp 19) (.const (.int .i64 0)) 28, none⟩]) (.cond (.tmp 20) (.seq (.reg [⟨some 21, .move (.tmp 7), none⟩,
    ⟨some 4, .assign (.const (.int .i64 0)), none⟩,
    ⟨some 5, .assign (.tmp 21), none⟩]) .ret) .skip)) (.seq (.reg [⟨some 22, .move (.tmp 6), none⟩,
    ⟨some 23, .load 27 (.tmp 2), none⟩,
    ⟨some 24, .move (.tmp 1), none⟩,
    ⟨some 25, .call { callee := .value (.func 87), args := #[.tmp 22, .tmp 23, .tmp 24], argTypes := #[75, 27, 22] }, none⟩,
    ⟨some 26, .call { callee := .builtin .len, args := #[.tmp 25], argTypes := #[22] }, none⟩,
    ⟨some 4, .assign (.tmp 26), none⟩,
    ⟨some 5, .assign (.const (.int .i64 0)), none⟩]) .ret))))
theorem at66 {args : List AV} {H : AH} {Q : AV → AH → Prop} (hl : args.length ≤ 27) (h : swp Try.prog s66 (fin Try.prog [.tmp 4, .tmp 5] Q) (env0 args) H) : AC Try.prog 66 args H Q :=
  AC.of (fun _ => []) Try.func66 rfl (by kernel_rfl) mixed (by kernel_rfl) (by kernel_rfl) rfl hl h
/-! ### function 67: codewright/codewrightref09.Pick -/
def s67 : SC :=
  .seq (.reg [⟨some 4, .assign (.const (.slice none 0 0)), none⟩]) (.seq (.reg [⟨some 7, .move (.tmp 1), none⟩,
    ⟨some 8, .call { callee := .builtin .len, args := #[.tmp 7], argTypes := #[22] }, none⟩,
    ⟨some 9, .makeSlice 22 (.tmp 8) (.tmp 8), none⟩,
    ⟨some 5, .assign (.tmp 9), none⟩]) (.seq (.seq (.reg [⟨some 6, .assign (.const (.int .i64 0)), none⟩]) (.block 0 (.loop (.seq (.seq (.reg [⟨some 10, .move (.tmp 6), none⟩,
    ⟨some 11, .move (.tmp 1), none⟩,
    ⟨some 12, .call { callee := .builtin .len, args := #[.tmp 11], argTypes := #[22] }, none⟩,
    ⟨some 13, .binOp .lss 3 (.tmp 10) (.tmp 12) 3, none⟩]) (.cond (.tmp 13) .skip (.exit 0))) (.seq (.block 1 (.reg [⟨some 16, .move (.tmp 5), none⟩,
    ⟨some 17, .move (.tmp 6), none⟩,
    ⟨some 18, .move (.tmp 0), none⟩,
    ⟨some 19, .move (.tmp 1), none⟩,
    ⟨some 20, .move (.tmp 6), none⟩,
    ⟨some 21, .indexAddr 22 (.tmp 19) (.tmp 20), none⟩,
    ⟨some 22, .load 3 (.tmp 21), none⟩,
    ⟨some 23, .indexAddr 22 (.tmp 18) (.tmp 22), none⟩,
    ⟨some 24, .load 3 (.tmp 23), none⟩,
    ⟨some 25, .indexAddr 22 (.tmp 16) (.tmp 17), none⟩,
    ⟨none, .store 3 (.tmp 25) (.tmp 24), none⟩])) (.reg [⟨some 14, .move (.tmp 6), none⟩,
    ⟨some 15, .binOp .add 3 (.tmp 14) (.const (.int .i64 1)) 3, none⟩,
    ⟨some 6, .assign (.tmp 15), none⟩])))))) (.seq (.reg [⟨some 26, .move (.tmp 5), none⟩,
    ⟨some 4, .assign (.tmp 26), none⟩]) .ret)))
theorem at67 {args : List AV} {H : AH} {Q : AV → AH → Prop} (hl : args.length ≤ 27) (h : swp Try.prog s67 (fin Try.prog [.tmp 4] Q) (env0 args) H) : AC Try.prog 67 args H Q :=
  AC.of (fun _ => []) Try.func67 rfl (by kernel_rfl) mixed (by kernel_rfl) (by kernel_rfl) rfl hl h
/-! ### function 68: codewright/codewrightref04.divides -/
def pl68 : Nat → Plan
  | 11 => [(0, []), (1, []), (2, []), (3, []), (4, []), (5, []), (6, []), (7, []), (8, []), (9, []), (10, []), (11, []), (12, []), (13, []), (14, []), (15, []), (16, []), (17, []), (18, []), (19, []), (20, []), (21, []), (22, []), (23, []), (24, []), (25, []), (26, [])]
  | _ => []
def s68 : SC :=
  .seq (.reg [⟨some 6, .assign (.const (.bool false)), none⟩]) (.seq (.reg [⟨some 13, .move (.tmp 0), none⟩,
    ⟨some 14, .call { callee := .builtin .len, args := #[.tmp 13], argTypes := #[22] }, none⟩,
    ⟨some 7, .assign (.tmp 14), none⟩]) (.seq (.reg [⟨some 15, .buildSlice 22 0 #[], none⟩,
    ⟨some 16, .move (.tmp 1), none⟩,
    ⟨some 17, .call { callee := .builtin .append, args := #[.tmp 15, .tmp 16], argTypes := #[22, 22] }, none⟩,
    ⟨some 8, .assign (.tmp 17), none⟩]) (.seq (.reg [⟨some 18, .move (.tmp 8), none⟩,
    ⟨some 19, .buildSlice 22 1 #[(0, .const (.int .i64 1))], none⟩,
    ⟨some 20, .call { callee := .builtin .append, args := #[.tmp 18, .tmp 19], argTypes := #[22, 22] }, none⟩,
    ⟨some 8, .assign (.tmp 20), none⟩]) (.seq (.seq (.reg [⟨some 21, .move (.tmp 8), none⟩,
    ⟨some 22, .call { callee := .builtin .len, args := #[.tmp 21], argTypes := #[22] }, none⟩,
    ⟨some 23, .binOp .sub 3 (.tmp 22) (.const (.int .i64 1)) 3, none⟩,
    ⟨some 9, .assign (.tmp 23), none⟩]) (.block 0 (.loop (.seq (.seq (.reg [⟨some 24, .move (.tmp 9), none⟩,
    ⟨some 25, .move (.tmp 7), none⟩,
    ⟨some 26, .binOp .geq 3 (.tmp 24) (.tmp 25) 3, none⟩]) (.cond (.tmp 26) .skip (.exit 0))) (.seq (.block 1 (.seq (.reg [⟨some 29, .move (.tmp 8), none⟩,
    ⟨some 30, .move (.tmp 9), none⟩,
    ⟨some 31, .indexAddr 22 (.tmp 29) (.tmp 30), none⟩,
    ⟨some 32, .load 3 (.tmp 31), none⟩,
    ⟨some 10, .assign (.tmp 32), none⟩]) (.seq (.seq (.reg [⟨some 11, .assign (.const (.int .i64 0)), none⟩]) (.block 2 (.loop (.seq (.seq (.reg [⟨some 33, .move (.tmp 11), none⟩,
    ⟨some 34, .move (.tmp 7), none⟩,
    ⟨some 35, .binOp .lss 3 (.tmp 33) (.tmp 34) 3, none⟩]) (.cond (.tmp 35) .skip (.exit 2))) (.seq (.block 3 (.draw [(0, [], ⟨some 38, .move (.tmp 8), none⟩),
    (1, [], ⟨some 39, .move (.tmp 9), none⟩),
    (2, [], ⟨some 40, .move (.tmp 7), none⟩),
    (3, [], ⟨some 41, .binOp .sub 3 (.tmp 39) (.tmp 40) 3, none⟩),
    (4, [], ⟨some 42, .move (.tmp 11), none⟩),
    (5, [], ⟨some 43, .binOp .add 3 (.tmp 41) (.tmp 42) 3, none⟩),
    (6, [], ⟨some 44, .move (.tmp 8), none⟩),
    (7, [], ⟨some 45, .move (.tmp 9), none⟩),
    (8, [], ⟨some 46, .move (.tmp 7), none⟩),
    (9, [], ⟨some 47, .binOp .sub 3 (.tmp 45) (.tmp 46) 3, none⟩),
    (10, [], ⟨some 48, .move (.tmp 11), none⟩),
    (11, [], ⟨some 49, .binOp .add 3 (.tmp 47) (.tmp 48) 3, none⟩),
    (12, [], ⟨some 50, .indexAddr 22 (.tmp 44) (.tmp 49), none⟩),
    (13, [], ⟨some 51, .load 3 (.tmp 50), none⟩),
    (14, [], ⟨some 52, .move (.tmp 2), none⟩),
    (15, [], ⟨some 53, .move (.tmp 10), none⟩),
    (16, [], ⟨some 54, .binOp .sub 3 (.tmp 52) (.tmp 53) 3, none⟩),
    (17, [], ⟨some 55, .move (.tmp 0), none⟩),
    (18, [], ⟨some 56, .move (.tmp 11), none⟩),
    (19, [], ⟨some 57, .indexAddr 22 (.tmp 55) (.tmp 56), none⟩),
    (20, [], ⟨some 58, .load 3 (.tmp 57), none⟩),
    (21, [], ⟨some 59, .binOp .mul 3 (.tmp 54) (.tmp 58) 3, none⟩),
    (22, [], ⟨some 60, .binOp .add 3 (.tmp 51) (.tmp 59) 3, none⟩),
    (23, [], ⟨some 61, .move (.tmp 2), none⟩),
    (24, [], ⟨some 62, .binOp .rem 3 (.tmp 60) (.tmp 61) 3, none⟩),
    (25, [], ⟨some 63, .indexAddr 22 (.tmp 38) (.tmp 43), none⟩),
    (26, [], ⟨none, .store 3 (.tmp 63) (.tmp 62), none⟩)])) (.reg [⟨some 36, .move (.tmp 11), none⟩,
    ⟨some 37, .binOp .add 3 (.tmp 36) (.const (.int .i64 1)) 3, none⟩,
    ⟨some 11, .assign (.tmp 37), none⟩])))))) (.reg [⟨some 64, .move (.tmp 8), none⟩,
    ⟨some 65, .move (.tmp 9), none⟩,
    ⟨some 66, .indexAddr 22 (.tmp 64) (.tmp 65), none⟩,
    ⟨none, .store 3 (.tmp 66) (.const (.int .i64 0)), none⟩])))) (.reg [⟨some 27, .move (.tmp 9), none⟩,
    ⟨some 28, .binOp .sub 3 (.tmp 27) (.const (.int .i64 1)) 3, none⟩,
    ⟨some 9, .assign (.tmp 28), none⟩])))))) (.seq (.seq (.reg [⟨some 12, .assign (.const (.int .i64 0)), none⟩]) (.block 4 (.loop (.seq (.seq (.reg [⟨some 67, .move (.tmp 12), none⟩,
    ⟨some 68, .move (.tmp 8), none⟩,
    ⟨some 69, .call { callee := .builtin .len, args := #[.tmp 68], argTypes := #[22] }, none⟩,
    ⟨some 70, .binOp .lss 3 (.tmp 67) (.tmp 69) 3, none⟩]) (.cond (.tmp 70) .skip (.exit 4))) (.seq (.block 5 (.seq (.reg [⟨some 73, .move (.tmp 8), none⟩,
    ⟨some 74, .move (.tmp 12), none⟩,
    ⟨some 75, .indexAddr 22 (.tmp 73) (.tmp 74), none⟩,
    ⟨some 76, .load 3 (.tmp 75), none⟩,
    ⟨some 77, .binOp .neq 3 (.tmp 76) (.const (.int .i64 0)) 3, none⟩]) (.cond (.tmp 77) (.seq (.reg [⟨some 6, .assign (.const (.bool false)), none⟩]) .ret) .skip))) (.reg [⟨some 71, .move (.tmp 12), none⟩,
    ⟨some 72, .binOp .add 3 (.tmp 71) (.const (.int .i64 1)) 3, none⟩,
    ⟨some 12, .assign (.tmp 72), none⟩])))))) (.seq (.reg [⟨some 6, .assign (.const (.bool true)), none⟩]) .ret))))))
theorem at68 {args : List AV} {H : AH} {Q : AV → AH → Prop} (hl : args.length ≤ 78) (h : swp Try.prog s68 (fin Try.prog [.tmp 6] Q) (env0 args) H) : AC Try.prog 68 args H Q :=
  AC.of (pl68) Try.func68 rfl (by kernel_rfl) mixed (by kernel_rfl) (by kernel_rfl) rfl hl h
/-! ### function 69: codewright/codewrightref04.digits -/
def s69 : SC :=
  .seq (.reg [⟨some 6, .assign (.const (.slice none 0 0)), none⟩]) (.seq (.reg [⟨some 9, .move (.tmp 2), none⟩,
    ⟨some 10, .makeSlice 22 (.tmp 9) (.tmp 9), none⟩,
    ⟨some 7, .assign (.tmp 10), none⟩]) (.seq (.seq (.reg [⟨some 8, .assign (.const (.int .i64 0)), none⟩]) (.block 0 (.loop (.seq (.seq (.reg [⟨some 11, .move (.tmp 8), none⟩,
    ⟨some 12, .move (.tmp 2), none⟩,
    ⟨some 13, .binOp .lss 3 (.tmp 11) (.tmp 12) 3, none⟩]) (.cond (.tmp 13) .skip (.exit 0))) (.seq (.block 1 (.seq (.reg [⟨some 16, .move (.tmp 7), none⟩,
    ⟨some 17, .move (.tmp 8), none⟩,
    ⟨some 18, .move (.tmp 0), none⟩,
    ⟨some 19, .move (.tmp 1), none⟩,
    ⟨some 20, .binOp .rem 3 (.tmp 18) (.tmp 19) 3, none⟩,
    ⟨some 21, .indexAddr 22 (.tmp 16) (.tmp 17), none⟩,
    ⟨none, .store 3 (.tmp 21) (.tmp 20), none⟩]) (.reg [⟨some 22, .move (.tmp 0), none⟩,
    ⟨some 23, .move (.tmp 1), none⟩,
    ⟨some 24, .binOp .quo 3 (.tmp 22) (.tmp 23) 3, none⟩,
    ⟨some 0, .assign (.tmp 24), none⟩]))) (.reg [⟨some 14, .move (.tmp 8), none⟩,
    ⟨some 15, .binOp .add 3 (.tmp 14) (.const (.int .i64 1)) 3, none⟩,
    ⟨some 8, .assign (.tmp 15), none⟩])))))) (.seq (.reg [⟨some 25, .move (.tmp 7), none⟩,
    ⟨some 6, .assign (.tmp 25), none⟩]) .ret)))
theorem at69 {args : List AV} {H : AH} {Q : AV → AH → Prop} (hl : args.length ≤ 26) (h : swp Try.prog s69 (fin Try.prog [.tmp 6] Q) (env0 args) H) : AC Try.prog 69 args H Q :=
  AC.of (fun _ => []) Try.func69 rfl (by kernel_rfl) mixed (by kernel_rfl) (by kernel_rfl) rfl hl h
/-! ### function 70: codewright/codewrightref09.Entries -/
def pl70 : Nat → Plan
  | 4 => [(0, []), (1, []), (2, []), (3, []), (4, []), (5, []), (6, [])]
  | _ => []
def s70 : SC :=
  .seq (.reg [⟨some 2, .box 24 (.tmp 0), none⟩,
    ⟨some 4, .assign (.const (.int .i64 0)), none⟩]) (.seq (.seq (.reg [⟨some 5, .assign (.const (.int .i64 0)), none⟩]) (.block 0 (.loop (.seq (.seq (.reg [⟨some 6, .move (.tmp 5), none⟩,
    ⟨some 7, .move (.tmp 1), none⟩,
    ⟨some 8, .call { callee := .builtin .len, args := #[.tmp 7], argTypes := #[22] }, none⟩,
    ⟨some 9, .binOp .lss 3 (.tmp 6) (.tmp 8) 3, none⟩]) (.cond (.tmp 9) .skip (.exit 0))) (.seq (.block 1 (.seq (.draw [(0, [], ⟨some 12, .load 24 (.tmp 2), none⟩),
    (1, [], ⟨some 13, .move (.tmp 1), none⟩),
    (2, [], ⟨some 14, .move (.tmp 5), none⟩),
    (3, [], ⟨some 15, .indexAddr 22 (.tmp 13) (.tmp 14), none⟩),
    (4, [], ⟨some 16, .load 3 (.tmp 15), none⟩),
    (5, [], ⟨some 17, .call { callee := .value (.func 88), args := #[.tmp 12, .tmp 16], argTypes := #[24, 3] }, none⟩),
    (6, [], ⟨some 18, .unOp .not 4 (.tmp 17), none⟩)]) (.cond (.tmp 18) (.seq (.reg [⟨some 4, .assign (.const (.int .i64 2)), none⟩]) .ret) .skip))) (.reg [⟨some 10, .move (.tmp 5), none⟩,
    ⟨some 11, .binOp .add 3 (.tmp 10) (.const (.int .i64 1)) 3, none⟩,
    ⟨some 5, .assign (.tmp 11), none⟩])))))) (.seq (.reg [⟨some 4, .assign (.const (.int .i64 0)), none⟩]) .ret))
theorem at70 {args : List AV} {H : AH} {Q : AV → AH → Prop} (hl : args.length ≤ 19) (h : swp Try.prog s70 (fin Try.prog [.tmp 4] Q) (env0 args) H) : AC Try.prog 70 args H Q :=
  AC.of (pl70) Try.func70 rfl (by kernel_rfl) mixed (by kernel_rfl) (by kernel_rfl) rfl hl h
/-! ### function 71: codewright/codewrightref09.Eliminate -/
def pl71 : Nat → Plan
  | 11 => [(0, []), (1, []), (2, []), (3, []), (4, []), (5, []), (6, []), (7, []), (8, []), (9, []), (10, []), (11, []), (12, []), (13, []), (14, []), (15, [])]
  | 13 => [(0, []), (1, []), (2, []), (3, []), (4, []), (5, []), (6, []), (7, []), (8, []), (9, []), (10, []), (12, []), (13, []), (14, []), (15, []), (11, [2, 15]), (16, []), (17, []), (18, [])]
  | 18 => [(0, []), (1, []), (2, []), (3, []), (4, []), (5, []), (6, []), (7, []), (8, []), (9, []), (10, []), (11, []), (12, []), (13, []), (14, []), (16, []), (17, []), (18, []), (19, []), (15, [2, 6, 19]), (20, []), (21, []), (22, [])]
  | _ => []
def s71 : SC :=
  .seq (.reg [⟨some 3, .box 24 (.tmp 0), none⟩,
    ⟨some 6, .assign (.const (.slice none 0 0)), none⟩,
    ⟨some 7, .assign (.const (.slice none 0 0)), none⟩]) (.seq (.reg [⟨some 14, .move (.tmp 1), none⟩,
    ⟨some 15, .call { callee := .value (.func 89), args := #[.tmp 14], argTypes := #[25] }, none⟩,
    ⟨some 8, .assign (.tmp 15), none⟩]) (.seq (.reg [⟨some 9, .assign (.const (.slice none 0 0)), none⟩]) (.seq (.reg [⟨some 10, .assign (.const (.int .i64 0)), none⟩]) (.seq (.seq (.reg [⟨some 11, .assign (.const (.int .i64 0)), none⟩]) (.block 0 (.loop (.seq (.seq (.reg [⟨some 16, .move (.tmp 11), none⟩,
    ⟨some 17, .move (.tmp 2), none⟩,
    ⟨some 18, .binOp .lss 3 (.tmp 16) (.tmp 17) 3, none⟩,
    ⟨some 19, .move (.tmp 18), none⟩,
    ⟨some 20, .move (.tmp 10), some (19, true)⟩,
    ⟨some 21, .move (.tmp 8), some (19, true)⟩,
    ⟨some 22, .call { callee := .builtin .len, args := #[.tmp 21], argTypes := #[25] }, some (19, true)⟩,
    ⟨some 23, .binOp .lss 3 (.tmp 20) (.tmp 22) 3, some (19, true)⟩,
    ⟨some 24, .pick (.tmp 19) (.tmp 23) (.const (.bool false)), none⟩]) (.cond (.tmp 24) .skip (.exit 0))) (.seq (.block 1 (.seq (.reg [⟨some 27, .move (.tmp 10), none⟩,
    ⟨some 12, .assign (.tmp 27), none⟩]) (.seq (.block 2 (.loop (.seq (.seq (.reg [⟨some 28, .move (.tmp 12), none⟩,
    ⟨some 29, .move (.tmp 8), none⟩,
    ⟨some 30, .call { callee := .builtin .len, args := #[.tmp 29], argTypes := #[25] }, none⟩,
    ⟨some 31, .binOp .lss 3 (.tmp 28) (.tmp 30) 3, none⟩,
    ⟨some 32, .move (.tmp 31), none⟩,
    ⟨some 33, .move (.tmp 8), some (32, true)⟩,
    ⟨some 34, .move (.tmp 12), some (32, true)⟩,
    ⟨some 35, .indexAddr 25 (.tmp 33) (.tmp 34), some (32, true)⟩,
    ⟨some 36, .load 22 (.tmp 35), some (32, true)⟩,
    ⟨some 37, .move (.tmp 11), some (32, true)⟩,
    ⟨some 38, .indexAddr 22 (.tmp 36) (.tmp 37), some (32, true)⟩,
    ⟨some 39, .load 3 (.tmp 38), some (32, true)⟩,
    ⟨some 40, .binOp .eql 3 (.tmp 39) (.const (.int .i64 0)) 3, some (32, true)⟩,
    ⟨some 41, .pick (.tmp 32) (.tmp 40) (.const (.bool false)), none⟩]) (.cond (.tmp 41) .skip (.exit 2))) (.block 3 (.reg [⟨some 42, .move (.tmp 12), none⟩,
    ⟨some 43, .binOp .add 3 (.tmp 42) (.const (.int .i64 1)) 3, none⟩,
    ⟨some 12, .assign (.tmp 43), none⟩]))))) (.seq (.seq (.reg [⟨some 44, .move (.tmp 12), none⟩,
    ⟨some 45, .move (.tmp 8), none⟩,
    ⟨some 46, .call { callee := .builtin .len, args := #[.tmp 45], argTypes := #[25] }, none⟩,
    ⟨some 47, .binOp .eql 3 (.tmp 44) (.tmp 46) 3, none⟩]) (.cond (.tmp 47) (.exit 1) .skip)) (.seq (.draw [(0, [], ⟨some 48, .move (.tmp 8), none⟩),
    (1, [], ⟨some 49, .move (.tmp 10), none⟩),
    (2, [], ⟨some 50, .move (.tmp 8), none⟩),
    (3, [], ⟨some 51, .move (.tmp 12), none⟩),
    (4, [], ⟨some 52, .move (.tmp 8), none⟩),
    (5, [], ⟨some 53, .move (.tmp 12), none⟩),
    (6, [], ⟨some 54, .indexAddr 25 (.tmp 52) (.tmp 53), none⟩),
    (7, [], ⟨some 55, .load 22 (.tmp 54), none⟩),
    (8, [], ⟨some 56, .move (.tmp 8), none⟩),
    (9, [], ⟨some 57, .move (.tmp 10), none⟩),
    (10, [], ⟨some 58, .indexAddr 25 (.tmp 56) (.tmp 57), none⟩),
    (11, [], ⟨some 59, .load 22 (.tmp 58), none⟩),
    (12, [], ⟨some 60, .indexAddr 25 (.tmp 48) (.tmp 49), none⟩),
    (13, [], ⟨none, .store 22 (.tmp 60) (.tmp 55), none⟩),
    (14, [], ⟨some 61, .indexAddr 25 (.tmp 50) (.tmp 51), none⟩),
    (15, [], ⟨none, .store 22 (.tmp 61) (.tmp 59), none⟩)]) (.seq (.seq (.reg [⟨some 62, .move (.tmp 8), none⟩,
    ⟨some 63, .move (.tmp 10), none⟩,
    ⟨some 64, .indexAddr 25 (.tmp 62) (.tmp 63), none⟩,
    ⟨some 65, .load 22 (.tmp 64), none⟩,
    ⟨some 66, .move (.tmp 11), none⟩,
    ⟨some 67, .indexAddr 22 (.tmp 65) (.tmp 66), none⟩,
    ⟨some 68, .load 3 (.tmp 67), none⟩,
    ⟨some 69, .binOp .neq 3 (.tmp 68) (.const (.int .i64 1)) 3, none⟩]) (.cond (.tmp 69) (.draw [(0, [], ⟨some 70, .move (.tmp 8), none⟩),
    (1, [], ⟨some 71, .move (.tmp 10), none⟩),
    (2, [], ⟨some 72, .load 24 (.tmp 3), none⟩),
    (3, [], ⟨some 73, .load 24 (.tmp 3), none⟩),
    (4, [], ⟨some 74, .move (.tmp 8), none⟩),
    (5, [], ⟨some 75, .move (.tmp 10), none⟩),
    (6, [], ⟨some 76, .indexAddr 25 (.tmp 74) (.tmp 75), none⟩),
    (7, [], ⟨some 77, .load 22 (.tmp 76), none⟩),
    (8, [], ⟨some 78, .move (.tmp 11), none⟩),
    (9, [], ⟨some 79, .indexAddr 22 (.tmp 77) (.tmp 78), none⟩),
    (10, [], ⟨some 80, .load 3 (.tmp 79), none⟩),
    (12, [], ⟨some 82, .move (.tmp 8), none⟩),
    (13, [], ⟨some 83, .move (.tmp 10), none⟩),
    (14, [], ⟨some 84, .indexAddr 25 (.tmp 82) (.tmp 83), none⟩),
    (15, [], ⟨some 85, .load 22 (.tmp 84), none⟩),
    (11, [2, 15], ⟨some 81, .call { callee := .value (.func 91), args := #[.tmp 73, .tmp 80], argTypes := #[24, 3] }, none⟩),
    (16, [], ⟨some 86, .call { callee := .value (.func 90), args := #[.tmp 72, .tmp 81, .tmp 85], argTypes := #[24, 3, 22] }, none⟩),
    (17, [], ⟨some 87, .indexAddr 25 (.tmp 70) (.tmp 71), none⟩),
    (18, [], ⟨none, .store 22 (.tmp 87) (.tmp 86), none⟩)]) .skip)) (.seq (.seq (.reg [⟨some 13, .assign (.const (.int .i64 0)), none⟩]) (.block 4 (.loop (.seq (.seq (.reg [⟨some 88, .move (.tmp 13), none⟩,
    ⟨some 89, .move (.tmp 8), none⟩,
    ⟨some 90, .call { callee := .builtin .len, args := #[.tmp 89], argTypes := #[25] }, none⟩,
    ⟨some 91, .binOp .lss 3 (.tmp 88) (.tmp 90) 3, none⟩]) (.cond (.tmp 91) .skip (.exit 4))) (.seq (.block 5 (.seq (.reg [⟨some 94, .move (.tmp 13), none⟩,
    ⟨some 95, .move (.tmp 10), none⟩,
    ⟨some 96, .binOp .neq 3 (.tmp 94) (.tmp 95) 3, none⟩,
    ⟨some 97, .move (.tmp 96), none⟩,
    ⟨some 98, .move (.tmp 8), some (97, true)⟩,
    ⟨some 99, .move (.tmp 13), some (97, true)⟩,
    ⟨some 100, .indexAddr 25 (.tmp 98) (.tmp 99), some (97, true)⟩,
    ⟨some 101, .load 22 (.tmp 100), some (97, true)⟩,
    ⟨some 102, .move (.tmp 11), some (97, true)⟩,
    ⟨some 103, .indexAddr 22 (.tmp 101) (.tmp 102), some (97, true)⟩,
    ⟨some 104, .load 3 (.tmp 103), some (97, true)⟩,
    ⟨some 105, .binOp .neq 3 (.tmp 104) (.const (.int .i64 0)) 3, some (97, true)⟩,
    ⟨some 106, .pick (.tmp 97) (.tmp 105) (.const (.bool false)), none⟩]) (.cond (.tmp 106) (.draw [(0, [], ⟨some 107, .move (.tmp 8), none⟩),
    (1, [], ⟨some 108, .move (.tmp 13), none⟩),
    (2, [], ⟨some 109, .load 24 (.tmp 3), none⟩),
    (3, [], ⟨some 110, .move (.tmp 8), none⟩),
    (4, [], ⟨some 111, .move (.tmp 13), none⟩),
    (5, [], ⟨some 112, .indexAddr 25 (.tmp 110) (.tmp 111), none⟩),
    (6, [], ⟨some 113, .load 22 (.tmp 112), none⟩),
    (7, [], ⟨some 114, .load 24 (.tmp 3), none⟩),
    (8, [], ⟨some 115, .move (.tmp 8), none⟩),
    (9, [], ⟨some 116, .move (.tmp 13), none⟩),
    (10, [], ⟨some 117, .indexAddr 25 (.tmp 115) (.tmp 116), none⟩),
    (11, [], ⟨some 118, .load 22 (.tmp 117), none⟩),
    (12, [], ⟨some 119, .move (.tmp 11), none⟩),
    (13, [], ⟨some 120, .indexAddr 22 (.tmp 118) (.tmp 119), none⟩),
    (14, [], ⟨some 121, .load 3 (.tmp 120), none⟩),
    (16, [], ⟨some 123, .move (.tmp 8), none⟩),
    (17, [], ⟨some 124, .move (.tmp 10), none⟩),
    (18, [], ⟨some 125, .indexAddr 25 (.tmp 123) (.tmp 124), none⟩),
    (19, [], ⟨some 126, .load 22 (.tmp 125), none⟩),
    (15, [2, 6, 19], ⟨some 122, .call { callee := .value (.func 93), args := #[.tmp 114, .tmp 121], argTypes := #[24, 3] }, none⟩),
    (20, [], ⟨some 127, .call { callee := .value (.func 92), args := #[.tmp 109, .tmp 113, .tmp 122, .tmp 126], argTypes := #[24, 22, 3, 22] }, none⟩),
    (21, [], ⟨some 128, .indexAddr 25 (.tmp 107) (.tmp 108), none⟩),
    (22, [], ⟨none, .store 22 (.tmp 128) (.tmp 127), none⟩)]) .skip))) (.reg [⟨some 92, .move (.tmp 13), none⟩,
    ⟨some 93, .binOp .add 3 (.tmp 92) (.const (.int .i64 1)) 3, none⟩,
    ⟨some 13, .assign (.tmp 93), none⟩])))))) (.seq (.reg [⟨some 129, .move (.tmp 9), none⟩,
    ⟨some 130, .move (.tmp 11), none⟩,
    ⟨some 131, .buildSlice 22 1 #[(0, .tmp 130)], none⟩,
    ⟨some 132, .call { callee := .builtin .append, args := #[.tmp 129, .tmp 131], argTypes := #[22, 22] }, none⟩,
    ⟨some 9, .assign (.tmp 132), none⟩]) (.reg [⟨some 133, .move (.tmp 10), none⟩,
    ⟨some 134, .binOp .add 3 (.tmp 133) (.const (.int .i64 1)) 3, none⟩,
    ⟨some 10, .assign (.tmp 134), none⟩]))))))))) (.reg [⟨some 25, .move (.tmp 11), none⟩,
    ⟨some 26, .binOp .add 3 (.tmp 25) (.const (.int .i64 1)) 3, none⟩,
    ⟨some 11, .assign (.tmp 26), none⟩])))))) (.seq (.reg [⟨some 135, .move (.tmp 8), none⟩,
    ⟨some 136, .move (.tmp 9), none⟩,
    ⟨some 6, .assign (.tmp 135), none⟩,
    ⟨some 7, .assign (.tmp 136), none⟩]) .ret)))))
theorem at71 {args : List AV} {H : AH} {Q : AV → AH → Prop} (hl : args.length ≤ 137) (h : swp Try.prog s71 (fin Try.prog [.tmp 6, .tmp 7] Q) (env0 args) H) : AC Try.prog 71 args H Q :=
  AC.of (pl71) Try.func71 rfl (by kernel_rfl) mixed (by kernel_rfl) (by kernel_rfl) rfl hl h
/-! ### function 72: codewright/codewrightref09.SameInts -/
def pl72 : Nat → Plan
  | 6 => [(0, []), (1, []), (2, []), (3, []), (4, []), (5, []), (6, []), (7, []), (8, [])]
  | _ => []
def s72 : SC :=
  .seq (.reg [⟨some 4, .assign (.const (.bool false)), none⟩]) (.seq (.seq (.reg [⟨some 6, .move (.tmp 0), none⟩,
    ⟨some 7, .call { callee := .builtin .len, args := #[.tmp 6], argTypes := #[22] }, none⟩,
    ⟨some 8, .move (.tmp 1), none⟩,
    ⟨some 9, .call { callee := .builtin .len, args := #[.tmp 8], argTypes := #[22] }, none⟩,
    ⟨some 10, .binOp .neq 3 (.tmp 7) (.tmp 9) 3, none⟩]) (.cond (.tmp 10) (.seq (.reg [⟨some 4, .assign (.const (.bool false)), none⟩]) .ret) .skip)) (.seq (.seq (.reg [⟨some 5, .assign (.const (.int .i64 0)), none⟩]) (.block 0 (.loop (.seq (.seq (.reg [⟨some 11, .move (.tmp 5), none⟩,
    ⟨some 12, .move (.tmp 0), none⟩,
    ⟨some 13, .call { callee := .builtin .len, args := #[.tmp 12], argTypes := #[22] }, none⟩,
    ⟨some 14, .binOp .lss 3 (.tmp 11) (.tmp 13) 3, none⟩]) (.cond (.tmp 14) .skip (.exit 0))) (.seq (.block 1 (.seq (.draw [(0, [], ⟨some 17, .move (.tmp 0), none⟩),
    (1, [], ⟨some 18, .move (.tmp 5), none⟩),
    (2, [], ⟨some 19, .indexAddr 22 (.tmp 17) (.tmp 18), none⟩),
    (3, [], ⟨some 20, .load 3 (.tmp 19), none⟩),
    (4, [], ⟨some 21, .move (.tmp 1), none⟩),
    (5, [], ⟨some 22, .move (.tmp 5), none⟩),
    (6, [], ⟨some 23, .indexAddr 22 (.tmp 21) (.tmp 22), none⟩),
    (7, [], ⟨some 24, .load 3 (.tmp 23), none⟩),
    (8, [], ⟨some 25, .binOp .neq 3 (.tmp 20) (.tmp 24) 3, none⟩)]) (.cond (.tmp 25) (.seq (.reg [⟨some 4, .assign (.const (.bool false)), none⟩]) .ret) .skip))) (.reg [⟨some 15, .move (.tmp 5), none⟩,
    ⟨some 16, .binOp .add 3 (.tmp 15) (.const (.int .i64 1)) 3, none⟩,
    ⟨some 5, .assign (.tmp 16), none⟩])))))) (.seq (.reg [⟨some 4, .assign (.const (.bool true)), none⟩]) .ret)))
theorem at72 {args : List AV} {H : AH} {Q : AV → AH → Prop} (hl : args.length ≤ 26) (h : swp Try.prog s72 (fin Try.prog [.tmp 4] Q) (env0 args) H) : AC Try.prog 72 args H Q :=
  AC.of (pl72) Try.func72 rfl (by kernel_rfl) mixed (by kernel_rfl) (by kernel_rfl) rfl hl h
/-! ### function 73: codewright/field.New -/
def pl73 : Nat → Plan
  | 7 => [(0, []), (1, []), (2, []), (3, []), (5, []), (6, []), (9, []), (10, []), (11, []), (4, []), (7, [1, 3]), (8, []), (12, []), (13, []), (14, []), (15, [])]
  | _ => []
def s73 : SC :=
  .seq (.reg [⟨some 1, .box 24 (.tmp 0), none⟩,
    ⟨some 2, .assign (.const (.pointer none)), none⟩,
    ⟨some 3, .assign (.const (.int .i64 0)), none⟩]) (.seq (.seq (.reg [⟨some 9, .load 24 (.tmp 1), none⟩,
    ⟨some 10, .call { callee := .value (.func 62), args := #[.tmp 9], argTypes := #[24] }, none⟩,
    ⟨some 11, .unOp .not 4 (.tmp 10), none⟩]) (.cond (.tmp 11) (.seq (.reg [⟨some 2, .assign (.const (.pointer none)), none⟩,
    ⟨some 3, .assign (.const (.int .i64 1)), none⟩]) .ret) .skip)) (.seq (.reg [⟨some 12, .fieldAddr 24 (.tmp 1) 0, none⟩,
    ⟨some 13, .load 3 (.tmp 12), none⟩,
    ⟨some 14, .fieldAddr 24 (.tmp 1) 1, none⟩,
    ⟨some 15, .load 3 (.tmp 14), none⟩,
    ⟨some 16, .call { callee := .value (.func 64), args := #[.tmp 13, .tmp 15], argTypes := #[3, 3] }, none⟩,
    ⟨some 4, .assign (.tmp 16), none⟩]) (.seq (.reg [⟨some 17, .load 24 (.tmp 1), none⟩,
    ⟨some 18, .move (.tmp 4), none⟩,
    ⟨some 19, .call { callee := .value (.func 63), args := #[.tmp 17, .tmp 18], argTypes := #[24, 3] }, none⟩,
    ⟨some 5, .assign (.tmp 19), none⟩]) (.seq (.seq (.reg [⟨some 20, .move (.tmp 5), none⟩,
    ⟨some 21, .binOp .eql 22 (.tmp 20) (.const (.slice none 0 0)) 22, none⟩]) (.cond (.tmp 21) (.seq (.reg [⟨some 2, .assign (.const (.pointer none)), none⟩,
    ⟨some 3, .assign (.const (.int .i64 1)), none⟩]) .ret) .skip)) (.seq (.draw [(0, [], ⟨some 22, .fieldAddr 24 (.tmp 1) 0, none⟩),
    (1, [], ⟨some 23, .load 3 (.tmp 22), none⟩),
    (2, [], ⟨some 24, .fieldAddr 24 (.tmp 1) 1, none⟩),
    (3, [], ⟨some 25, .load 3 (.tmp 24), none⟩),
    (5, [], ⟨some 27, .fieldAddr 24 (.tmp 1) 2, none⟩),
    (6, [], ⟨some 28, .load 22 (.tmp 27), none⟩),
    (9, [], ⟨some 31, .move (.tmp 4), none⟩),
    (10, [], ⟨some 32, .move (.tmp 5), none⟩),
    (11, [], ⟨some 33, .move (.tmp 4), none⟩),
    (4, [], ⟨some 26, .buildSlice 22 0 #[], none⟩),
    (7, [1, 3], ⟨some 29, .call { callee := .builtin .append, args := #[.tmp 26, .tmp 28], argTypes := #[22, 22] }, none⟩),
    (8, [], ⟨some 30, .build 24 #[(0, .tmp 23), (1, .tmp 25), (2, .tmp 29)], none⟩),
    (12, [], ⟨some 34, .makeSlice 22 (.tmp 33) (.tmp 33), none⟩),
    (13, [], ⟨some 35, .build 101 #[(0, .tmp 30), (1, .tmp 31), (2, .tmp 32), (3, .tmp 34)], none⟩),
    (14, [], ⟨some 36, .box 101 (.tmp 35), none⟩),
    (15, [], ⟨some 6, .assign (.tmp 36), none⟩)]) (.seq (.seq (.reg [⟨some 37, .move (.tmp 5), none⟩,
    ⟨some 38, .call { callee := .builtin .len, args := #[.tmp 37], argTypes := #[22] }, none⟩,
    ⟨some 39, .move (.const (.int .i64 0)), none⟩]) (.block 0 (.loop (.seq (.reg [⟨some 40, .binOp .lss 3 (.tmp 39) (.tmp 38) 3, none⟩]) (.seq (.cond (.tmp 40) .skip (.exit 0)) (.seq (.block 1 (.seq (.reg [⟨some 41, .move (.tmp 39), none⟩,
    ⟨some 42, .indexAddr 22 (.tmp 37) (.tmp 39), none⟩,
    ⟨some 43, .load 3 (.tmp 42), none⟩,
    ⟨some 7, .assign (.tmp 41), none⟩,
    ⟨some 8, .assign (.tmp 43), none⟩]) (.reg [⟨some 44, .move (.tmp 6), none⟩,
    ⟨some 45, .nilCheck (.tmp 44), none⟩,
    ⟨some 46, .fieldAddr 101 (.tmp 45) 3, none⟩,
    ⟨some 47, .load 22 (.tmp 46), none⟩,
    ⟨some 48, .move (.tmp 8), none⟩,
    ⟨some 49, .move (.tmp 7), none⟩,
    ⟨some 50, .indexAddr 22 (.tmp 47) (.tmp 48), none⟩,
    ⟨none, .store 3 (.tmp 50) (.tmp 49), none⟩]))) (.reg [⟨some 51, .binOp .add 3 (.tmp 39) (.const (.int .i64 1)) 3, none⟩,
    ⟨some 39, .move (.tmp 51), none⟩]))))))) (.seq (.reg [⟨some 52, .move (.tmp 6), none⟩,
    ⟨some 2, .assign (.tmp 52), none⟩,
    ⟨some 3, .assign (.const (.int .i64 0)), none⟩]) .ret)))))))
theorem at73 {args : List AV} {H : AH} {Q : AV → AH → Prop} (hl : args.length ≤ 53) (h : swp Try.prog s73 (fin Try.prog [.tmp 2, .tmp 3] Q) (env0 args) H) : AC Try.prog 73 args H Q :=
  AC.of (pl73) Try.func73 rfl (by kernel_rfl) mixed (by kernel_rfl) (by kernel_rfl) rfl hl h
/-! ### function 74: codewright/matrix.check -/
def s74 : SC :=
  .seq (.reg [⟨some 3, .box 59 (.tmp 1), none⟩,
    ⟨some 4, .assign (.const (.int .i64 0)), none⟩]) (.seq (.seq (.reg [⟨some 10, .fieldAddr 59 (.tmp 3) 0, none⟩,
    ⟨some 11, .load 3 (.tmp 10), none⟩,
    ⟨some 12, .binOp .lss 3 (.tmp 11) (.const (.int .i64 0)) 3, none⟩,
    ⟨some 13, .move (.tmp 12), none⟩,
    ⟨some 14, .fieldAddr 59 (.tmp 3) 0, some (13, false)⟩,
    ⟨some 15, .load 3 (.tmp 14), some (13, false)⟩,
    ⟨some 16, .binOp .gtr 3 (.tmp 15) (.const (.int .i64 256)) 3, some (13, false)⟩,
    ⟨some 17, .pick (.tmp 13) (.const (.bool true)) (.tmp 16), none⟩,
    ⟨some 18, .move (.tmp 17), none⟩,
    ⟨some 19, .fieldAddr 59 (.tmp 3) 1, some (18, false)⟩,
    ⟨some 20, .load 25 (.tmp 19), some (18, false)⟩,
    ⟨some 21, .call { callee := .builtin .len, args := #[.tmp 20], argTypes := #[25] }, some (18, false)⟩,
    ⟨some 22, .binOp .gtr 3 (.tmp 21) (.const (.int .i64 256)) 3, some (18, false)⟩,
    ⟨some 23, .pick (.tmp 18) (.const (.bool true)) (.tmp 22), none⟩]) (.cond (.tmp 23) (.seq (.reg [⟨some 4, .assign (.const (.int .i64 3)), none⟩]) .ret) .skip)) (.seq (.seq (.reg [⟨some 24, .fieldAddr 59 (.tmp 3) 1, none⟩,
    ⟨some 25, .load 25 (.tmp 24), none⟩,
    ⟨some 26, .call { callee := .builtin .len, args := #[.tmp 25], argTypes := #[25] }, none⟩,
    ⟨some 27, .move (.const (.int .i64 0)), none⟩]) (.block 0 (.loop (.seq (.reg [⟨some 28, .binOp .lss 3 (.tmp 27) (.tmp 26) 3, none⟩]) (.seq (.cond (.tmp 28) .skip (.exit 0)) (.seq (.block 1 (.seq (.reg [⟨some 29, .indexAddr 25 (.tmp 25) (.tmp 27), none⟩,
    ⟨some 30, .load 22 (.tmp 29), none⟩,
    ⟨some 6, .assign (.tmp 30), none⟩]) (.seq (.reg [⟨some 31, .move (.tmp 6), none⟩,
    ⟨some 32, .call { callee := .builtin .len, args := #[.tmp 31], argTypes := #[22] }, none⟩,
    ⟨some 33, .fieldAddr 59 (.tmp 3) 0, none⟩,
    ⟨some 34, .load 3 (.tmp 33), none⟩,
    ⟨some 35, .binOp .neq 3 (.tmp 32) (.tmp 34) 3, none⟩]) (.cond (.tmp 35) (.seq (.reg [⟨some 4, .assign (.const (.int .i64 3)), none⟩]) .ret) .skip)))) (.reg [⟨some 36, .binOp .add 3 (.tmp 27) (.const (.int .i64 1)) 3, none⟩,
    ⟨some 27, .move (.tmp 36), none⟩]))))))) (.seq (.seq (.reg [⟨some 37, .fieldAddr 59 (.tmp 3) 1, none⟩,
    ⟨some 38, .load 25 (.tmp 37), none⟩,
    ⟨some 39, .call { callee := .builtin .len, args := #[.tmp 38], argTypes := #[25] }, none⟩,
    ⟨some 40, .move (.const (.int .i64 0)), none⟩]) (.block 2 (.loop (.seq (.reg [⟨some 41, .binOp .lss 3 (.tmp 40) (.tmp 39) 3, none⟩]) (.seq (.cond (.tmp 41) .skip (.exit 2)) (.seq (.block 3 (.seq (.reg [⟨some 42, .indexAddr 25 (.tmp 38) (.tmp 40), none⟩,
    ⟨some 43, .load 22 (.tmp 42), none⟩,
    ⟨some 8, .assign (.tmp 43), none⟩]) (.seq (.reg [⟨some 44, .move (.tmp 0), none⟩,
    ⟨some 45, .move (.tmp 8), none⟩,
    ⟨some 46, .call { callee := .value (.func 94), args := #[.tmp 44, .tmp 45], argTypes := #[75, 22] }, none⟩,
    ⟨some 9, .assign (.tmp 46), none⟩]) (.seq (.reg [⟨some 47, .move (.tmp 9), none⟩,
    ⟨some 48, .binOp .neq 28 (.tmp 47) (.const (.int .i64 0)) 28, none⟩]) (.cond (.tmp 48) (.seq (.reg [⟨some 49, .move (.tmp 9), none⟩,
    ⟨some 4, .assign (.tmp 49), none⟩]) .ret) .skip))))) (.reg [⟨some 50, .binOp .add 3 (.tmp 40) (.const (.int .i64 1)) 3, none⟩,
    ⟨some 40, .move (.tmp 50), none⟩]))))))) (.seq (.reg [⟨some 4, .assign (.const (.int .i64 0)), none⟩]) .ret))))
theorem at74 {args : List AV} {H : AH} {Q : AV → AH → Prop} (hl : args.length ≤ 51) (h : swp Try.prog s74 (fin Try.prog [.tmp 4] Q) (env0 args) H) : AC Try.prog 74 args H Q :=
  AC.of (fun _ => []) Try.func74 rfl (by kernel_rfl) mixed (by kernel_rfl) (by kernel_rfl) rfl hl h
/-! ### function 75: codewright/matrix.clone -/
def s75 : SC :=
  .seq (.reg [⟨some 2, .assign (.const (.slice none 0 0)), none⟩]) (.seq (.reg [⟨some 6, .move (.tmp 0), none⟩,
    ⟨some 7, .call { callee := .builtin .len, args := #[.tmp 6], argTypes := #[25] }, none⟩,
    ⟨some 8, .makeSlice 25 (.tmp 7) (.tmp 7), none⟩,
    ⟨some 3, .assign (.tmp 8), none⟩]) (.seq (.seq (.reg [⟨some 9, .move (.tmp 0), none⟩,
    ⟨some 10, .call { callee := .builtin .len, args := #[.tmp 9], argTypes := #[25] }, none⟩,
    ⟨some 11, .move (.const (.int .i64 0)), none⟩]) (.block 0 (.loop (.seq (.reg [⟨some 12, .binOp .lss 3 (.tmp 11) (.tmp 10) 3, none⟩]) (.seq (.cond (.tmp 12) .skip (.exit 0)) (.seq (.block 1 (.seq (.reg [⟨some 13, .move (.tmp 11), none⟩,
    ⟨some 14, .indexAddr 25 (.tmp 9) (.tmp 11), none⟩,
    ⟨some 15, .load 22 (.tmp 14), none⟩,
    ⟨some 4, .assign (.tmp 13), none⟩,
    ⟨some 5, .assign (.tmp 15), none⟩]) (.reg [⟨some 16, .move (.tmp 3), none⟩,
    ⟨some 17, .move (.tmp 4), none⟩,
    ⟨some 18, .move (.tmp 5), none⟩,
    ⟨some 19, .call { callee := .value (.func 79), args := #[.tmp 18], argTypes := #[22] }, none⟩,
    ⟨some 20, .indexAddr 25 (.tmp 16) (.tmp 17), none⟩,
    ⟨none, .store 22 (.tmp 20) (.tmp 19), none⟩]))) (.reg [⟨some 21, .binOp .add 3 (.tmp 11) (.const (.int .i64 1)) 3, none⟩,
    ⟨some 11, .move (.tmp 21), none⟩]))))))) (.seq (.reg [⟨some 22, .move (.tmp 3), none⟩,
    ⟨some 2, .assign (.tmp 22), none⟩]) .ret)))
theorem at75 {args : List AV} {H : AH} {Q : AV → AH → Prop} (hl : args.length ≤ 23) (h : swp Try.prog s75 (fin Try.prog [.tmp 2] Q) (env0 args) H) : AC Try.prog 75 args H Q :=
  AC.of (fun _ => []) Try.func75 rfl (by kernel_rfl) mixed (by kernel_rfl) (by kernel_rfl) rfl hl h
/-! ### function 76: codewright/matrix.eliminate -/
def pl76 : Nat → Plan
  | 15 => [(0, []), (1, []), (2, []), (3, []), (4, []), (5, []), (6, []), (7, []), (8, []), (9, []), (10, [])]
  | 16 => [(0, []), (1, []), (2, []), (3, []), (4, []), (5, []), (6, []), (7, []), (8, []), (9, []), (10, []), (11, []), (12, []), (13, []), (14, [])]
  | _ => []
def s76 : SC :=
  .seq (.reg [⟨some 4, .box 75 (.tmp 0), none⟩,
    ⟨some 5, .box 25 (.tmp 1), none⟩,
    ⟨some 7, .box 25 (.tmp 3), none⟩,
    ⟨some 8, .assign (.const (.slice none 0 0)), none⟩,
    ⟨some 9, .assign (.const (.int .i64 0)), none⟩]) (.seq (.reg [⟨some 10, .assign (.const (.int .i64 1)), none⟩]) (.seq (.reg [⟨some 20, .makeFunc (.func 95) #[] #[.tmp 5, .tmp 7], none⟩,
    ⟨some 11, .assign (.tmp 20), none⟩]) (.seq (.reg [⟨some 12, .assign (.const (.slice none 0 0)), none⟩]) (.seq (.seq (.reg [⟨some 13, .assign (.const (.int .i64 0)), none⟩]) (.block 0 (.loop (.seq (.seq (.reg [⟨some 21, .move (.tmp 13), none⟩,
    ⟨some 22, .move (.tmp 2), none⟩,
    ⟨some 23, .binOp .lss 3 (.tmp 21) (.tmp 22) 3, none⟩,
    ⟨some 24, .move (.tmp 23), none⟩,
    ⟨some 25, .move (.tmp 12), some (24, true)⟩,
    ⟨some 26, .call { callee := .builtin .len, args := #[.tmp 25], argTypes := #[22] }, some (24, true)⟩,
    ⟨some 27, .load 25 (.tmp 5), some (24, true)⟩,
    ⟨some 28, .call { callee := .builtin .len, args := #[.tmp 27], argTypes := #[25] }, some (24, true)⟩,
    ⟨some 29, .binOp .lss 3 (.tmp 26) (.tmp 28) 3, some (24, true)⟩,
    ⟨some 30, .pick (.tmp 24) (.tmp 29) (.const (.bool false)), none⟩]) (.cond (.tmp 30) .skip (.exit 0))) (.seq (.block 1 (.seq (.reg [⟨some 33, .move (.tmp 12), none⟩,
    ⟨some 34, .call { callee := .builtin .len, args := #[.tmp 33], argTypes := #[22] }, none⟩,
    ⟨some 14, .alloc 3, none⟩,
    ⟨none, .store 3 (.tmp 14) (.tmp 34), none⟩]) (.seq (.reg [⟨some 35, .load 3 (.tmp 14), none⟩,
    ⟨some 15, .alloc 3, none⟩,
    ⟨none, .store 3 (.tmp 15) (.tmp 35), none⟩]) (.seq (.block 2 (.loop (.seq (.seq (.reg [⟨some 36, .load 3 (.tmp 15), none⟩,
    ⟨some 37, .load 25 (.tmp 5), none⟩,
    ⟨some 38, .call { callee := .builtin .len, args := #[.tmp 37], argTypes := #[25] }, none⟩,
    ⟨some 39, .binOp .lss 3 (.tmp 36) (.tmp 38) 3, none⟩,
    ⟨some 40, .move (.tmp 39), none⟩,
    ⟨some 41, .load 25 (.tmp 5), some (40, true)⟩,
    ⟨some 42, .load 3 (.tmp 15), some (40, true)⟩,
    ⟨some 43, .indexAddr 25 (.tmp 41) (.tmp 42), some (40, true)⟩,
    ⟨some 44, .load 22 (.tmp 43), some (40, true)⟩,
    ⟨some 45, .move (.tmp 13), some (40, true)⟩,
    ⟨some 46, .indexAddr 22 (.tmp 44) (.tmp 45), some (40, true)⟩,
    ⟨some 47, .load 3 (.tmp 46), some (40, true)⟩,
    ⟨some 48, .binOp .eql 3 (.tmp 47) (.const (.int .i64 0)) 3, some (40, true)⟩,
    ⟨some 49, .pick (.tmp 40) (.tmp 48) (.const (.bool false)), none⟩]) (.cond (.tmp 49) .skip (.exit 2))) (.block 3 (.reg [⟨some 50, .load 3 (.tmp 15), none⟩,
    ⟨some 51, .binOp .add 3 (.tmp 50) (.const (.int .i64 1)) 3, none⟩,
    ⟨none, .store 3 (.tmp 15) (.tmp 51), none⟩]))))) (.seq (.seq (.reg [⟨some 52, .load 3 (.tmp 15), none⟩,
    ⟨some 53, .load 25 (.tmp 5), none⟩,
    ⟨some 54, .call { callee := .builtin .len, args := #[.tmp 53], argTypes := #[25] }, none⟩,
    ⟨some 55, .binOp .eql 3 (.tmp 52) (.tmp 54) 3, none⟩]) (.cond (.tmp 55) (.exit 1) .skip)) (.seq (.seq (.reg [⟨some 56, .load 3 (.tmp 15), none⟩,
    ⟨some 57, .load 3 (.tmp 14), none⟩,
    ⟨some 58, .binOp .neq 3 (.tmp 56) (.tmp 57) 3, none⟩]) (.cond (.tmp 58) (.seq (.reg [⟨some 59, .move (.tmp 11), none⟩,
    ⟨some 60, .makeFunc (.func 96) #[] #[.tmp 15, .tmp 14], none⟩,
    ⟨some 61, .call { callee := .value (.tmp 59), args := #[.tmp 60], argTypes := #[116] }, none⟩]) (.reg [⟨some 62, .load 75 (.tmp 4), none⟩,
    ⟨some 63, .move (.tmp 10), none⟩,
    ⟨some 64, .call { callee := .value (.func 59), args := #[.tmp 62, .tmp 63], argTypes := #[75, 3] }, none⟩,
    ⟨some 10, .assign (.tmp 64), none⟩])) .skip)) (.seq (.draw [(0, [], ⟨some 65, .load 75 (.tmp 4), none⟩),
    (1, [], ⟨some 66, .move (.tmp 10), none⟩),
    (2, [], ⟨some 67, .load 25 (.tmp 5), none⟩),
    (3, [], ⟨some 68, .load 3 (.tmp 14), none⟩),
    (4, [], ⟨some 69, .indexAddr 25 (.tmp 67) (.tmp 68), none⟩),
    (5, [], ⟨some 70, .load 22 (.tmp 69), none⟩),
    (6, [], ⟨some 71, .move (.tmp 13), none⟩),
    (7, [], ⟨some 72, .indexAddr 22 (.tmp 70) (.tmp 71), none⟩),
    (8, [], ⟨some 73, .load 3 (.tmp 72), none⟩),
    (9, [], ⟨some 74, .call { callee := .value (.func 97), args := #[.tmp 65, .tmp 66, .tmp 73], argTypes := #[75, 3, 3] }, none⟩),
    (10, [], ⟨some 10, .assign (.tmp 74), none⟩)]) (.seq (.seq (.draw [(0, [], ⟨some 76, .load 75 (.tmp 4), none⟩),
    (1, [], ⟨some 77, .load 25 (.tmp 5), none⟩),
    (2, [], ⟨some 78, .load 3 (.tmp 14), none⟩),
    (3, [], ⟨some 79, .indexAddr 25 (.tmp 77) (.tmp 78), none⟩),
    (4, [], ⟨some 80, .load 22 (.tmp 79), none⟩),
    (5, [], ⟨some 81, .move (.tmp 13), none⟩),
    (6, [], ⟨some 82, .indexAddr 22 (.tmp 80) (.tmp 81), none⟩),
    (7, [], ⟨some 83, .load 3 (.tmp 82), none⟩),
    (8, [], ⟨some 84, .call { callee := .value (.func 98), args := #[.tmp 76, .tmp 83], argTypes := #[75, 3] }, none⟩),
    (9, [], ⟨some 75, .move (.tmp 84), none⟩),
    (10, [], ⟨some 85, .extract (.tmp 75) 0, none⟩),
    (11, [], ⟨some 86, .extract (.tmp 75) 1, none⟩),
    (12, [], ⟨some 16, .alloc 3, none⟩),
    (13, [], ⟨none, .store 3 (.tmp 16) (.tmp 85), none⟩),
    (14, [], ⟨some 17, .assign (.tmp 86), none⟩)]) (.seq (.reg [⟨some 87, .move (.tmp 17), none⟩,
    ⟨some 88, .binOp .eql 28 (.tmp 87) (.const (.int .i64 0)) 28, none⟩,
    ⟨some 89, .move (.tmp 88), none⟩,
    ⟨some 90, .load 3 (.tmp 16), some (89, true)⟩,
    ⟨some 91, .binOp .neq 3 (.tmp 90) (.const (.int .i64 1)) 3, some (89, true)⟩,
    ⟨some 92, .pick (.tmp 89) (.tmp 91) (.const (.bool false)), none⟩]) (.cond (.tmp 92) (.reg [⟨some 93, .move (.tmp 11), none⟩,
    ⟨some 94, .makeFunc (.func 99) #[] #[.tmp 4, .tmp 16, .tmp 14], none⟩,
    ⟨some 95, .call { callee := .value (.tmp 93), args := #[.tmp 94], argTypes := #[116] }, none⟩]) .skip))) (.seq (.seq (.reg [⟨some 96, .load 25 (.tmp 5), none⟩,
    ⟨some 97, .call { callee := .builtin .len, args := #[.tmp 96], argTypes := #[25] }, none⟩,
    ⟨some 98, .move (.const (.int .i64 0)), none⟩]) (.block 4 (.loop (.seq (.reg [⟨some 99, .binOp .lss 3 (.tmp 98) (.tmp 97) 3, none⟩]) (.seq (.cond (.tmp 99) .skip (.exit 4)) (.seq (.block 5 (.seq (.reg [⟨some 100, .move (.tmp 98), none⟩,
    ⟨some 18, .alloc 3, none⟩,
    ⟨none, .store 3 (.tmp 18) (.tmp 100), none⟩]) (.seq (.reg [⟨some 101, .load 25 (.tmp 5), none⟩,
    ⟨some 102, .load 3 (.tmp 18), none⟩,
    ⟨some 103, .indexAddr 25 (.tmp 101) (.tmp 102), none⟩,
    ⟨some 104, .load 22 (.tmp 103), none⟩,
    ⟨some 105, .move (.tmp 13), none⟩,
    ⟨some 106, .indexAddr 22 (.tmp 104) (.tmp 105), none⟩,
    ⟨some 107, .load 3 (.tmp 106), none⟩,
    ⟨some 19, .alloc 3, none⟩,
    ⟨none, .store 3 (.tmp 19) (.tmp 107), none⟩]) (.seq (.reg [⟨some 108, .load 3 (.tmp 18), none⟩,
    ⟨some 109, .load 3 (.tmp 14), none⟩,
    ⟨some 110, .binOp .neq 3 (.tmp 108) (.tmp 109) 3, none⟩,
    ⟨some 111, .move (.tmp 110), none⟩,
    ⟨some 112, .load 3 (.tmp 19), some (111, true)⟩,
    ⟨some 113, .binOp .neq 3 (.tmp 112) (.const (.int .i64 0)) 3, some (111, true)⟩,
    ⟨some 114, .pick (.tmp 111) (.tmp 113) (.const (.bool false)), none⟩]) (.cond (.tmp 114) (.reg [⟨some 115, .move (.tmp 11), none⟩,
    ⟨some 116, .makeFunc (.func 101) #[] #[.tmp 4, .tmp 18, .tmp 19, .tmp 14], none⟩,
    ⟨some 117, .call { callee := .value (.tmp 115), args := #[.tmp 116], argTypes := #[116] }, none⟩]) .skip))))) (.reg [⟨some 118, .binOp .add 3 (.tmp 98) (.const (.int .i64 1)) 3, none⟩,
    ⟨some 98, .move (.tmp 118), none⟩]))))))) (.reg [⟨some 119, .move (.tmp 12), none⟩,
    ⟨some 120, .move (.tmp 13), none⟩,
    ⟨some 121, .buildSlice 22 1 #[(0, .tmp 120)], none⟩,
    ⟨some 122, .call { callee := .builtin .append, args := #[.tmp 119, .tmp 121], argTypes := #[22, 22] }, none⟩,
    ⟨some 12, .assign (.tmp 122), none⟩])))))))))) (.reg [⟨some 31, .move (.tmp 13), none⟩,
    ⟨some 32, .binOp .add 3 (.tmp 31) (.const (.int .i64 1)) 3, none⟩,
    ⟨some 13, .assign (.tmp 32), none⟩])))))) (.seq (.reg [⟨some 123, .move (.tmp 12), none⟩,
    ⟨some 124, .move (.tmp 10), none⟩,
    ⟨some 8, .assign (.tmp 123), none⟩,
    ⟨some 9, .assign (.tmp 124), none⟩]) .ret)))))
theorem at76 {args : List AV} {H : AH} {Q : AV → AH → Prop} (hl : args.length ≤ 125) (h : swp Try.prog s76 (fin Try.prog [.tmp 8, .tmp 9] Q) (env0 args) H) : AC Try.prog 76 args H Q :=
  AC.of (pl76) Try.func76 rfl (by kernel_rfl) mixed (by kernel_rfl) (by kernel_rfl) rfl hl h
/-! ### function 77: slices.Index[[]int,int] -/
def s77 : SC :=
  .seq (.reg [⟨some 4, .assign (.const (.int .i64 0)), none⟩]) (.seq (.seq (.reg [⟨some 6, .move (.tmp 0), none⟩,
    ⟨some 7, .call { callee := .builtin .len, args := #[.tmp 6], argTypes := #[22] }, none⟩,
    ⟨some 8, .move (.const (.int .i64 0)), none⟩]) (.block 0 (.loop (.seq (.reg [⟨some 9, .binOp .lss 3 (.tmp 8) (.tmp 7) 3, none⟩]) (.seq (.cond (.tmp 9) .skip (.exit 0)) (.seq (.block 1 (.seq (.reg [⟨some 10, .move (.tmp 8), none⟩,
    ⟨some 5, .assign (.tmp 10), none⟩]) (.seq (.reg [⟨some 11, .move (.tmp 1), none⟩,
    ⟨some 12, .move (.tmp 0), none⟩,
    ⟨some 13, .move (.tmp 5), none⟩,
    ⟨some 14, .indexAddr 22 (.tmp 12) (.tmp 13), none⟩,
    ⟨some 15, .load 3 (.tmp 14), none⟩,
    ⟨some 16, .binOp .eql 3 (.tmp 11) (.tmp 15) 3, none⟩]) (.cond (.tmp 16) (.seq (.reg [⟨some 17, .move (.tmp 5), none⟩,
    ⟨some 4, .assign (.tmp 17), none⟩]) .ret) .skip)))) (.reg [⟨some 18, .binOp .add 3 (.tmp 8) (.const (.int .i64 1)) 3, none⟩,
    ⟨some 8, .move (.tmp 18), none⟩]))))))) (.seq (.reg [⟨some 4, .assign (.const (.int .i64 (-1))), none⟩]) .ret))
theorem at77 {args : List AV} {H : AH} {Q : AV → AH → Prop} (hl : args.length ≤ 19) (h : swp Try.prog s77 (fin Try.prog [.tmp 4] Q) (env0 args) H) : AC Try.prog 77 args H Q :=
  AC.of (fun _ => []) Try.func77 rfl (by kernel_rfl) mixed (by kernel_rfl) (by kernel_rfl) rfl hl h
/-! ### function 78: (*codewright/field.GF).in -/
def s78 : SC :=
  .seq (.reg [⟨some 4, .assign (.const (.int .i64 0)), none⟩]) (.seq (.seq (.reg [⟨some 5, .move (.tmp 0), none⟩,
    ⟨some 6, .move (.tmp 1), none⟩,
    ⟨some 7, .call { callee := .value (.func 103), args := #[.tmp 5, .tmp 6], argTypes := #[75, 3] }, none⟩]) (.cond (.tmp 7) (.seq (.reg [⟨some 8, .move (.tmp 1), none⟩,
    ⟨some 4, .assign (.tmp 8), none⟩]) .ret) .skip)) (.seq (.reg [⟨some 4, .assign (.const (.int .i64 0)), none⟩]) .ret))
theorem at78 {args : List AV} {H : AH} {Q : AV → AH → Prop} (hl : args.length ≤ 9) (h : swp Try.prog s78 (fin Try.prog [.tmp 4] Q) (env0 args) H) : AC Try.prog 78 args H Q :=
  AC.of (fun _ => []) Try.func78 rfl (by kernel_rfl) mixed (by kernel_rfl) (by kernel_rfl) rfl hl h
/-! ### function 79: slices.Clone[[]int,int] -/
def s79 : SC :=
  .seq (.reg [⟨some 2, .assign (.const (.slice none 0 0)), none⟩]) (.seq (.seq (.reg [⟨some 3, .move (.tmp 0), none⟩,
    ⟨some 4, .binOp .eql 22 (.tmp 3) (.const (.slice none 0 0)) 22, none⟩]) (.cond (.tmp 4) (.seq (.reg [⟨some 2, .assign (.const (.slice none 0 0)), none⟩]) .ret) .skip)) (.seq (.reg [⟨some 5, .buildSlice 22 0 #[], none⟩,
    ⟨some 6, .move (.tmp 0), none⟩,
    ⟨some 7, .call { callee := .builtin .append, args := #[.tmp 5, .tmp 6], argTypes := #[22, 22] }, none⟩,
    ⟨some 2, .assign (.tmp 7), none⟩]) .ret))
theorem at79 {args : List AV} {H : AH} {Q : AV → AH → Prop} (hl : args.length ≤ 8) (h : swp Try.prog s79 (fin Try.prog [.tmp 2] Q) (env0 args) H) : AC Try.prog 79 args H Q :=
  AC.of (fun _ => []) Try.func79 rfl (by kernel_rfl) mixed (by kernel_rfl) (by kernel_rfl) rfl hl h
/-! ### function 80: codewright/field.isPrime -/
def s80 : SC :=
  .seq (.reg [⟨some 2, .assign (.const (.bool false)), none⟩]) (.seq (.seq (.reg [⟨some 3, .assign (.const (.int .i64 2)), none⟩]) (.block 0 (.loop (.seq (.seq (.reg [⟨some 4, .move (.tmp 3), none⟩,
    ⟨some 5, .move (.tmp 3), none⟩,
    ⟨some 6, .binOp .mul 3 (.tmp 4) (.tmp 5) 3, none⟩,
    ⟨some 7, .move (.tmp 0), none⟩,
    ⟨some 8, .binOp .leq 3 (.tmp 6) (.tmp 7) 3, none⟩]) (.cond (.tmp 8) .skip (.exit 0))) (.seq (.block 1 (.seq (.reg [⟨some 11, .move (.tmp 0), none⟩,
    ⟨some 12, .move (.tmp 3), none⟩,
    ⟨some 13, .binOp .rem 3 (.tmp 11) (.tmp 12) 3, none⟩,
    ⟨some 14, .binOp .eql 3 (.tmp 13) (.const (.int .i64 0)) 3, none⟩]) (.cond (.tmp 14) (.seq (.reg [⟨some 2, .assign (.const (.bool false)), none⟩]) .ret) .skip))) (.reg [⟨some 9, .move (.tmp 3), none⟩,
    ⟨some 10, .binOp .add 3 (.tmp 9) (.const (.int .i64 1)) 3, none⟩,
    ⟨some 3, .assign (.tmp 10), none⟩])))))) (.seq (.reg [⟨some 15, .move (.tmp 0), none⟩,
    ⟨some 16, .binOp .geq 3 (.tmp 15) (.const (.int .i64 2)) 3, none⟩,
    ⟨some 2, .assign (.tmp 16), none⟩]) .ret))
theorem at80 {args : List AV} {H : AH} {Q : AV → AH → Prop} (hl : args.length ≤ 17) (h : swp Try.prog s80 (fin Try.prog [.tmp 2] Q) (env0 args) H) : AC Try.prog 80 args H Q :=
  AC.of (fun _ => []) Try.func80 rfl (by kernel_rfl) mixed (by kernel_rfl) (by kernel_rfl) rfl hl h
/-! ### function 81: codewright/field.powers -/
def s81 : SC :=
  .seq (.reg [⟨some 3, .box 24 (.tmp 0), none⟩,
    ⟨some 6, .assign (.const (.slice none 0 0)), none⟩]) (.seq (.reg [⟨some 10, .buildSlice 22 1 #[(0, .const (.int .i64 1))], none⟩,
    ⟨some 7, .assign (.tmp 10), none⟩]) (.seq (.reg [⟨some 11, .move (.tmp 1), none⟩,
    ⟨some 12, .makeSlice 55 (.tmp 11) (.tmp 11), none⟩,
    ⟨some 8, .assign (.tmp 12), none⟩]) (.seq (.reg [⟨some 13, .move (.tmp 8), none⟩,
    ⟨some 14, .indexAddr 55 (.tmp 13) (.const (.int .i64 1)), none⟩,
    ⟨none, .store 4 (.tmp 14) (.const (.bool true)), none⟩]) (.seq (.seq (.reg [⟨some 15, .move (.tmp 2), none⟩,
    ⟨some 9, .assign (.tmp 15), none⟩]) (.block 0 (.loop (.seq (.seq (.reg [⟨some 16, .move (.tmp 9), none⟩,
    ⟨some 17, .binOp .neq 3 (.tmp 16) (.const (.int .i64 0)) 3, none⟩,
    ⟨some 18, .move (.tmp 17), none⟩,
    ⟨some 19, .move (.tmp 8), some (18, true)⟩,
    ⟨some 20, .move (.tmp 9), some (18, true)⟩,
    ⟨some 21, .indexAddr 55 (.tmp 19) (.tmp 20), some (18, true)⟩,
    ⟨some 22, .load 4 (.tmp 21), some (18, true)⟩,
    ⟨some 23, .unOp .not 4 (.tmp 22), some (18, true)⟩,
    ⟨some 24, .pick (.tmp 18) (.tmp 23) (.const (.bool false)), none⟩]) (.cond (.tmp 24) .skip (.exit 0))) (.seq (.block 1 (.seq (.reg [⟨some 29, .move (.tmp 8), none⟩,
    ⟨some 30, .move (.tmp 9), none⟩,
    ⟨some 31, .indexAddr 55 (.tmp 29) (.tmp 30), none⟩,
    ⟨none, .store 4 (.tmp 31) (.const (.bool true)), none⟩]) (.reg [⟨some 32, .move (.tmp 7), none⟩,
    ⟨some 33, .move (.tmp 9), none⟩,
    ⟨some 34, .buildSlice 22 1 #[(0, .tmp 33)], none⟩,
    ⟨some 35, .call { callee := .builtin .append, args := #[.tmp 32, .tmp 34], argTypes := #[22, 22] }, none⟩,
    ⟨some 7, .assign (.tmp 35), none⟩]))) (.reg [⟨some 25, .load 24 (.tmp 3), none⟩,
    ⟨some 26, .move (.tmp 9), none⟩,
    ⟨some 27, .move (.tmp 2), none⟩,
    ⟨some 28, .call { callee := .value (.func 82), args := #[.tmp 25, .tmp 26, .tmp 27], argTypes := #[24, 3, 3] }, none⟩,
    ⟨some 9, .assign (.tmp 28), none⟩])))))) (.seq (.reg [⟨some 36, .move (.tmp 7), none⟩,
    ⟨some 6, .assign (.tmp 36), none⟩]) .ret)))))
theorem at81 {args : List AV} {H : AH} {Q : AV → AH → Prop} (hl : args.length ≤ 37) (h : swp Try.prog s81 (fin Try.prog [.tmp 6] Q) (env0 args) H) : AC Try.prog 81 args H Q :=
  AC.of (fun _ => []) Try.func81 rfl (by kernel_rfl) mixed (by kernel_rfl) (by kernel_rfl) rfl hl h
end Go.Proofs.Yteijojnahpeglaa.AM
