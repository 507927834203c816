/- Helpers. Stripped texts of functions, printed by gen.py out of the loaded program; Lean checks each against it. · Stripped texts of functions, printed by gen.py out of the loaded program; Lean checks each against it. · Stripped texts of functions, printed by gen.py out of the loaded program; Lean checks each against it. -/
import Derived.Test.YtbkpebmcagdgmaaGreatK3
import Derived.Test.YtbkpebmcagdgmaaGreatProg
import Derived.KernelRfl
/-! Stripped texts of functions, printed by gen.py out of the loaded program; Lean checks each against it. -/
namespace Go.Proofs.YtbkpebmcagdgmaaGreat.AM
open Go Go.RowKit
set_option linter.unusedVariables false
set_option linter.defProp false
theorem mixed : Tryz.prog.follows .mixedOrders = true := by kernel_rfl
theorem ty_byE_153 : byE Tryz.prog 153 = some 32 := by kernel_rfl
theorem ty_byE_22 : byE Tryz.prog 22 = some 8 := by kernel_rfl
theorem ty_byE_25 : byE Tryz.prog 25 = some 24 := by kernel_rfl
theorem ty_byE_54 : byE Tryz.prog 54 = some 32 := by kernel_rfl
theorem ty_byE_58 : byE Tryz.prog 58 = some 1 := by kernel_rfl
theorem ty_elT_153 : elT Tryz.prog 153 = some 62 := by kernel_rfl
theorem ty_elT_22 : elT Tryz.prog 22 = some 3 := by kernel_rfl
theorem ty_elT_25 : elT Tryz.prog 25 = some 22 := by kernel_rfl
theorem ty_elT_48 : elT Tryz.prog 48 = some 5 := by kernel_rfl
theorem ty_elT_54 : elT Tryz.prog 54 = some 60 := by kernel_rfl
theorem ty_elT_58 : elT Tryz.prog 58 = some 4 := by kernel_rfl
theorem ty_fOff_126_0 : fOff Tryz.prog 126 0 = some 0 := by kernel_rfl
theorem ty_fOff_126_1 : fOff Tryz.prog 126 1 = some 1 := by kernel_rfl
theorem ty_fOff_126_2 : fOff Tryz.prog 126 2 = some 3 := by kernel_rfl
theorem ty_fOff_135_0 : fOff Tryz.prog 135 0 = some 0 := by kernel_rfl
theorem ty_fOff_135_1 : fOff Tryz.prog 135 1 = some 1 := by kernel_rfl
theorem ty_fOff_135_2 : fOff Tryz.prog 135 2 = some 2 := by kernel_rfl
theorem ty_fOff_164_0 : fOff Tryz.prog 164 0 = some 0 := by kernel_rfl
theorem ty_fOff_164_1 : fOff Tryz.prog 164 1 = some 3 := by kernel_rfl
theorem ty_fOff_164_2 : fOff Tryz.prog 164 2 = some 4 := by kernel_rfl
theorem ty_fOff_164_3 : fOff Tryz.prog 164 3 = some 5 := by kernel_rfl
theorem ty_fOff_24_0 : fOff Tryz.prog 24 0 = some 0 := by kernel_rfl
theorem ty_fOff_24_1 : fOff Tryz.prog 24 1 = some 1 := by kernel_rfl
theorem ty_fOff_24_2 : fOff Tryz.prog 24 2 = some 2 := by kernel_rfl
theorem ty_fOff_27_0 : fOff Tryz.prog 27 0 = some 0 := by kernel_rfl
theorem ty_fOff_27_1 : fOff Tryz.prog 27 1 = some 3 := by kernel_rfl
theorem ty_fOff_27_2 : fOff Tryz.prog 27 2 = some 4 := by kernel_rfl
theorem ty_fOff_60_0 : fOff Tryz.prog 60 0 = some 0 := by kernel_rfl
theorem ty_fOff_60_1 : fOff Tryz.prog 60 1 = some 1 := by kernel_rfl
theorem ty_fOff_62_0 : fOff Tryz.prog 62 0 = some 0 := by kernel_rfl
theorem ty_fOff_62_1 : fOff Tryz.prog 62 1 = some 1 := by kernel_rfl
theorem ty_intT_3 : intT Tryz.prog 3 = some .i64 := by kernel_rfl
theorem ty_intT_5 : intT Tryz.prog 5 = some .u8 := by kernel_rfl
theorem ty_isA_126 : isA Tryz.prog 126 = some true := by kernel_rfl
theorem ty_isA_22 : isA Tryz.prog 22 = some false := by kernel_rfl
theorem ty_isA_24 : isA Tryz.prog 24 = some true := by kernel_rfl
theorem ty_isA_25 : isA Tryz.prog 25 = some false := by kernel_rfl
theorem ty_isA_27 : isA Tryz.prog 27 = some true := by kernel_rfl
theorem ty_isA_3 : isA Tryz.prog 3 = some false := by kernel_rfl
theorem ty_isA_4 : isA Tryz.prog 4 = some false := by kernel_rfl
theorem ty_isA_5 : isA Tryz.prog 5 = some false := by kernel_rfl
theorem ty_isA_60 : isA Tryz.prog 60 = some true := by kernel_rfl
theorem ty_isA_62 : isA Tryz.prog 62 = some true := by kernel_rfl
theorem ty_isA_89 : isA Tryz.prog 89 = some false := by kernel_rfl
theorem ty_plT_126 : plT Tryz.prog 126 = some [(0, 1), (1, 2), (3, 1)] := by kernel_rfl
theorem ty_plT_135 : plT Tryz.prog 135 = some [(0, 1), (1, 1), (2, 1)] := by kernel_rfl
theorem ty_plT_164 : plT Tryz.prog 164 = some [(0, 3), (3, 1), (4, 1), (5, 1)] := by kernel_rfl
theorem ty_plT_24 : plT Tryz.prog 24 = some [(0, 1), (1, 1), (2, 1)] := by kernel_rfl
theorem ty_plT_27 : plT Tryz.prog 27 = some [(0, 3), (3, 1), (4, 1)] := by kernel_rfl
theorem ty_plT_60 : plT Tryz.prog 60 = some [(0, 1), (1, 1)] := by kernel_rfl
theorem ty_plT_62 : plT Tryz.prog 62 = some [(0, 1), (1, 1)] := by kernel_rfl
theorem ty_szE_153 : szE Tryz.prog 153 = some 2 := by kernel_rfl
theorem ty_szE_22 : szE Tryz.prog 22 = some 1 := by kernel_rfl
theorem ty_szE_25 : szE Tryz.prog 25 = some 1 := by kernel_rfl
theorem ty_szE_48 : szE Tryz.prog 48 = some 1 := by kernel_rfl
theorem ty_szE_54 : szE Tryz.prog 54 = some 2 := by kernel_rfl
theorem ty_szE_58 : szE Tryz.prog 58 = some 1 := by kernel_rfl
theorem ty_szT_126 : szT Tryz.prog 126 = some 4 := by kernel_rfl
theorem ty_szT_22 : szT Tryz.prog 22 = some 1 := by kernel_rfl
theorem ty_szT_24 : szT Tryz.prog 24 = some 3 := by kernel_rfl
theorem ty_szT_25 : szT Tryz.prog 25 = some 1 := by kernel_rfl
theorem ty_szT_27 : szT Tryz.prog 27 = some 5 := by kernel_rfl
theorem ty_szT_3 : szT Tryz.prog 3 = some 1 := by kernel_rfl
theorem ty_szT_4 : szT Tryz.prog 4 = some 1 := by kernel_rfl
theorem ty_szT_5 : szT Tryz.prog 5 = some 1 := by kernel_rfl
theorem ty_szT_60 : szT Tryz.prog 60 = some 2 := by kernel_rfl
theorem ty_szT_62 : szT Tryz.prog 62 = some 2 := by kernel_rfl
theorem ty_szT_89 : szT Tryz.prog 89 = some 1 := by kernel_rfl
theorem ty_zrE_153 : zrE Tryz.prog 153 = some [.int .i64 0, .nils] := by kernel_rfl
theorem ty_zrE_22 : zrE Tryz.prog 22 = some [.int .i64 0] := by kernel_rfl
theorem ty_zrE_25 : zrE Tryz.prog 25 = some [.nils] := by kernel_rfl
theorem ty_zrE_54 : zrE Tryz.prog 54 = some [.nils, .int .i64 0] := by kernel_rfl
theorem ty_zrE_58 : zrE Tryz.prog 58 = some [.bool false] := by kernel_rfl
theorem ty_zrT_126 : zrT Tryz.prog 126 = some [.nilp, .int .i64 0, .nils, .nils] := by kernel_rfl
theorem ty_zrT_135 : zrT Tryz.prog 135 = some [.nilp, .nils, .nils] := by kernel_rfl
theorem ty_zrT_164 : zrT Tryz.prog 164 = some [.int .i64 0, .int .i64 0, .nils, .int .i64 0, .nils, .nils] := by kernel_rfl
theorem ty_zrT_24 : zrT Tryz.prog 24 = some [.int .i64 0, .int .i64 0, .nils] := by kernel_rfl
theorem ty_zrT_27 : zrT Tryz.prog 27 = some [.int .i64 0, .int .i64 0, .nils, .int .i64 0, .nils] := by kernel_rfl
theorem ty_zrT_3 : zrT Tryz.prog 3 = some [.int .i64 0] := by kernel_rfl
theorem ty_zrT_60 : zrT Tryz.prog 60 = some [.nils, .int .i64 0] := by kernel_rfl
theorem ty_zrT_62 : zrT Tryz.prog 62 = some [.int .i64 0, .nils] := by kernel_rfl
theorem ty_zrT_89 : zrT Tryz.prog 89 = some [.nilp] := by kernel_rfl
def TY := And.intro @ty_byE_153 <|
  And.intro @ty_byE_22 <|
  And.intro @ty_byE_25 <|
  And.intro @ty_byE_54 <|
  And.intro @ty_byE_58 <|
  And.intro @ty_elT_153 <|
  And.intro @ty_elT_22 <|
  And.intro @ty_elT_25 <|
  And.intro @ty_elT_48 <|
  And.intro @ty_elT_54 <|
  And.intro @ty_elT_58 <|
  And.intro @ty_fOff_126_0 <|
  And.intro @ty_fOff_126_1 <|
  And.intro @ty_fOff_126_2 <|
  And.intro @ty_fOff_135_0 <|
  And.intro @ty_fOff_135_1 <|
  And.intro @ty_fOff_135_2 <|
  And.intro @ty_fOff_164_0 <|
  And.intro @ty_fOff_164_1 <|
  And.intro @ty_fOff_164_2 <|
  And.intro @ty_fOff_164_3 <|
  And.intro @ty_fOff_24_0 <|
  And.intro @ty_fOff_24_1 <|
  And.intro @ty_fOff_24_2 <|
  And.intro @ty_fOff_27_0 <|
  And.intro @ty_fOff_27_1 <|
  And.intro @ty_fOff_27_2 <|
  And.intro @ty_fOff_60_0 <|
  And.intro @ty_fOff_60_1 <|
  And.intro @ty_fOff_62_0 <|
  And.intro @ty_fOff_62_1 <|
  And.intro @ty_intT_3 <|
  And.intro @ty_intT_5 <|
  And.intro @ty_isA_126 <|
  And.intro @ty_isA_22 <|
  And.intro @ty_isA_24 <|
  And.intro @ty_isA_25 <|
  And.intro @ty_isA_27 <|
  And.intro @ty_isA_3 <|
  And.intro @ty_isA_4 <|
  And.intro @ty_isA_5 <|
  And.intro @ty_isA_60 <|
  And.intro @ty_isA_62 <|
  And.intro @ty_isA_89 <|
  And.intro @ty_plT_126 <|
  And.intro @ty_plT_135 <|
  And.intro @ty_plT_164 <|
  And.intro @ty_plT_24 <|
  And.intro @ty_plT_27 <|
  And.intro @ty_plT_60 <|
  And.intro @ty_plT_62 <|
  And.intro @ty_szE_153 <|
  And.intro @ty_szE_22 <|
  And.intro @ty_szE_25 <|
  And.intro @ty_szE_48 <|
  And.intro @ty_szE_54 <|
  And.intro @ty_szE_58 <|
  And.intro @ty_szT_126 <|
  And.intro @ty_szT_22 <|
  And.intro @ty_szT_24 <|
  And.intro @ty_szT_25 <|
  And.intro @ty_szT_27 <|
  And.intro @ty_szT_3 <|
  And.intro @ty_szT_4 <|
  And.intro @ty_szT_5 <|
  And.intro @ty_szT_60 <|
  And.intro @ty_szT_62 <|
  And.intro @ty_szT_89 <|
  And.intro @ty_zrE_153 <|
  And.intro @ty_zrE_22 <|
  And.intro @ty_zrE_25 <|
  And.intro @ty_zrE_54 <|
  And.intro @ty_zrE_58 <|
  And.intro @ty_zrT_126 <|
  And.intro @ty_zrT_135 <|
  And.intro @ty_zrT_164 <|
  And.intro @ty_zrT_24 <|
  And.intro @ty_zrT_27 <|
  And.intro @ty_zrT_3 <|
  And.intro @ty_zrT_60 <|
  And.intro @ty_zrT_62 <|
  @ty_zrT_89
/-! ### function 3: codewright/codewrightlaw48.OrderingWidths -/
def s3 : SC :=
  .seq (.reg [⟨some 2, .box 27 (.tmp 0), none⟩,
    ⟨some 4, .assign (.const (.bool false)), none⟩]) (.seq (.reg [⟨some 16, .load 27 (.tmp 2), none⟩,
    ⟨some 17, .move (.tmp 1), none⟩,
    ⟨some 18, .call { callee := .value (.func 14), args := #[.tmp 16, .tmp 17], argTypes := #[27, 22] }, none⟩,
    ⟨some 15, .move (.tmp 18), none⟩,
    ⟨some 19, .extract (.tmp 15) 0, none⟩,
    ⟨some 20, .extract (.tmp 15) 1, none⟩,
    ⟨some 5, .assign (.tmp 19), none⟩,
    ⟨some 6, .assign (.tmp 20), none⟩]) (.seq (.reg [⟨some 22, .load 27 (.tmp 2), none⟩,
    ⟨some 23, .move (.tmp 1), none⟩,
    ⟨some 24, .call { callee := .value (.func 15), args := #[.tmp 22, .tmp 23], argTypes := #[27, 22] }, none⟩,
    ⟨some 21, .move (.tmp 24), none⟩,
    ⟨some 25, .extract (.tmp 21) 0, none⟩,
    ⟨some 26, .extract (.tmp 21) 1, none⟩,
    ⟨some 7, .assign (.tmp 25), none⟩,
    ⟨some 8, .assign (.tmp 26), none⟩]) (.seq (.seq (.reg [⟨some 27, .move (.tmp 5), none⟩,
    ⟨some 28, .move (.tmp 7), none⟩,
    ⟨some 29, .binOp .neq 3 (.tmp 27) (.tmp 28) 3, none⟩,
    ⟨some 30, .move (.tmp 29), none⟩,
    ⟨some 31, .move (.tmp 6), some (30, false)⟩,
    ⟨some 32, .move (.tmp 8), some (30, false)⟩,
    ⟨some 33, .binOp .neq 28 (.tmp 31) (.tmp 32) 28, some (30, false)⟩,
    ⟨some 34, .pick (.tmp 30) (.const (.bool true)) (.tmp 33), none⟩,
    ⟨some 35, .move (.tmp 34), none⟩,
    ⟨some 36, .call { callee := .value (.func 16), args := #[], argTypes := #[] }, some (35, false)⟩,
    ⟨some 37, .unOp .not 4 (.tmp 36), some (35, false)⟩,
    ⟨some 38, .pick (.tmp 35) (.const (.bool true)) (.tmp 37), none⟩]) (.cond (.tmp 38) (.seq (.reg [⟨some 4, .assign (.const (.bool false)), none⟩]) .ret) .skip)) (.seq (.seq (.reg [⟨some 39, .move (.tmp 8), none⟩,
    ⟨some 40, .binOp .neq 28 (.tmp 39) (.const (.int .i64 0)) 28, none⟩]) (.cond (.tmp 40) (.seq (.reg [⟨some 4, .assign (.const (.bool true)), none⟩]) .ret) .skip)) (.seq (.reg [⟨some 42, .load 27 (.tmp 2), none⟩,
    ⟨some 43, .move (.tmp 1), none⟩,
    ⟨some 44, .call { callee := .value (.func 17), args := #[.tmp 42, .tmp 43], argTypes := #[27, 22] }, none⟩,
    ⟨some 41, .move (.tmp 44), none⟩,
    ⟨some 45, .extract (.tmp 41) 0, none⟩,
    ⟨some 46, .extract (.tmp 41) 1, none⟩,
    ⟨some 9, .alloc 27, none⟩,
    ⟨none, .store 27 (.tmp 9) (.tmp 45), none⟩,
    ⟨some 10, .assign (.tmp 46), none⟩]) (.seq (.reg [⟨some 48, .load 27 (.tmp 9), none⟩,
    ⟨some 49, .call { callee := .value (.func 18), args := #[.tmp 48], argTypes := #[27] }, none⟩,
    ⟨some 47, .move (.tmp 49), none⟩,
    ⟨some 50, .extract (.tmp 47) 0, none⟩,
    ⟨some 51, .extract (.tmp 47) 1, none⟩,
    ⟨some 11, .assign (.tmp 50), none⟩,
    ⟨some 12, .assign (.tmp 51), none⟩]) (.seq (.seq (.reg [⟨some 52, .move (.tmp 10), none⟩,
    ⟨some 53, .binOp .neq 28 (.tmp 52) (.const (.int .i64 0)) 28, none⟩,
    ⟨some 54, .move (.tmp 53), none⟩,
    ⟨some 55, .move (.tmp 12), some (54, false)⟩,
    ⟨some 56, .binOp .neq 28 (.tmp 55) (.const (.int .i64 0)) 28, some (54, false)⟩,
    ⟨some 57, .pick (.tmp 54) (.const (.bool true)) (.tmp 56), none⟩,
    ⟨some 58, .move (.tmp 57), none⟩,
    ⟨some 59, .move (.tmp 11), some (58, false)⟩,
    ⟨some 60, .call { callee := .builtin .len, args := #[.tmp 59], argTypes := #[22] }, some (58, false)⟩,
    ⟨some 61, .fieldAddr 27 (.tmp 2) 1, some (58, false)⟩,
    ⟨some 62, .load 3 (.tmp 61), some (58, false)⟩,
    ⟨some 63, .binOp .add 3 (.tmp 62) (.const (.int .i64 1)) 3, some (58, false)⟩,
    ⟨some 64, .binOp .neq 3 (.tmp 60) (.tmp 63) 3, some (58, false)⟩,
    ⟨some 65, .pick (.tmp 58) (.const (.bool true)) (.tmp 64), none⟩]) (.cond (.tmp 65) (.seq (.reg [⟨some 4, .assign (.const (.bool false)), none⟩]) .ret) .skip)) (.seq (.reg [⟨some 13, .assign (.const (.int .i64 0)), none⟩]) (.seq (.seq (.reg [⟨some 14, .assign (.const (.int .i64 0)), none⟩]) (.block 0 (.loop (.seq (.seq (.reg [⟨some 66, .move (.tmp 14), none⟩,
    ⟨some 67, .move (.tmp 11), none⟩,
    ⟨some 68, .call { callee := .builtin .len, args := #[.tmp 67], argTypes := #[22] }, none⟩,
    ⟨some 69, .binOp .lss 3 (.tmp 66) (.tmp 68) 3, none⟩]) (.cond (.tmp 69) .skip (.exit 0))) (.seq (.block 1 (.reg [⟨some 72, .move (.tmp 13), none⟩,
    ⟨some 73, .move (.tmp 11), none⟩,
    ⟨some 74, .move (.tmp 14), none⟩,
    ⟨some 75, .indexAddr 22 (.tmp 73) (.tmp 74), none⟩,
    ⟨some 76, .load 3 (.tmp 75), none⟩,
    ⟨some 77, .call { callee := .builtin .max, args := #[.tmp 72, .tmp 76], argTypes := #[3, 3] }, none⟩,
    ⟨some 13, .assign (.tmp 77), none⟩])) (.reg [⟨some 70, .move (.tmp 14), none⟩,
    ⟨some 71, .binOp .add 3 (.tmp 70) (.const (.int .i64 1)) 3, none⟩,
    ⟨some 14, .assign (.tmp 71), none⟩])))))) (.seq (.reg [⟨some 78, .move (.tmp 13), none⟩,
    ⟨some 79, .move (.tmp 5), none⟩,
    ⟨some 80, .binOp .eql 3 (.tmp 78) (.tmp 79) 3, none⟩,
    ⟨some 4, .assign (.tmp 80), none⟩]) .ret))))))))))
/-! ### function 4: codewright/codewrightlaw48.OrderingReorders -/
def pl4 : Nat → Plan
  | 8 => [(0, []), (1, []), (2, []), (3, [0]), (4, []), (5, []), (6, []), (7, []), (8, []), (9, [])]
  | _ => []
def s4 : SC :=
  .seq (.reg [⟨some 3, .box 27 (.tmp 0), none⟩,
    ⟨some 6, .assign (.const (.bool false)), none⟩]) (.seq (.reg [⟨some 16, .load 27 (.tmp 3), none⟩,
    ⟨some 17, .move (.tmp 1), none⟩,
    ⟨some 18, .call { callee := .value (.func 17), args := #[.tmp 16, .tmp 17], argTypes := #[27, 22] }, none⟩,
    ⟨some 15, .move (.tmp 18), none⟩,
    ⟨some 19, .extract (.tmp 15) 0, none⟩,
    ⟨some 20, .extract (.tmp 15) 1, none⟩,
    ⟨some 7, .alloc 27, none⟩,
    ⟨none, .store 27 (.tmp 7) (.tmp 19), none⟩,
    ⟨some 8, .assign (.tmp 20), none⟩]) (.seq (.reg [⟨some 22, .load 27 (.tmp 3), none⟩,
    ⟨some 23, .move (.tmp 1), none⟩,
    ⟨some 24, .call { callee := .value (.func 19), args := #[.tmp 22, .tmp 23], argTypes := #[27, 22] }, none⟩,
    ⟨some 21, .move (.tmp 24), none⟩,
    ⟨some 25, .extract (.tmp 21) 0, none⟩,
    ⟨some 26, .extract (.tmp 21) 1, none⟩,
    ⟨some 9, .alloc 27, none⟩,
    ⟨none, .store 27 (.tmp 9) (.tmp 25), none⟩,
    ⟨some 10, .assign (.tmp 26), none⟩]) (.seq (.seq (.reg [⟨some 27, .move (.tmp 8), none⟩,
    ⟨some 28, .move (.tmp 10), none⟩,
    ⟨some 29, .binOp .neq 28 (.tmp 27) (.tmp 28) 28, none⟩,
    ⟨some 30, .move (.tmp 29), none⟩,
    ⟨some 31, .load 27 (.tmp 7), some (30, false)⟩,
    ⟨some 32, .load 27 (.tmp 9), some (30, false)⟩,
    ⟨some 33, .call { callee := .value (.func 20), args := #[.tmp 31, .tmp 32], argTypes := #[27, 27] }, some (30, false)⟩,
    ⟨some 34, .unOp .not 4 (.tmp 33), some (30, false)⟩,
    ⟨some 35, .pick (.tmp 30) (.const (.bool true)) (.tmp 34), none⟩,
    ⟨some 36, .move (.tmp 35), none⟩,
    ⟨some 37, .call { callee := .value (.func 16), args := #[], argTypes := #[] }, some (36, false)⟩,
    ⟨some 38, .unOp .not 4 (.tmp 37), some (36, false)⟩,
    ⟨some 39, .pick (.tmp 36) (.const (.bool true)) (.tmp 38), none⟩]) (.cond (.tmp 39) (.seq (.reg [⟨some 6, .assign (.const (.bool false)), none⟩]) .ret) .skip)) (.seq (.reg [⟨some 41, .load 27 (.tmp 3), none⟩,
    ⟨some 42, .move (.tmp 2), none⟩,
    ⟨some 43, .call { callee := .value (.func 21), args := #[.tmp 41, .tmp 42], argTypes := #[27, 22] }, none⟩,
    ⟨some 40, .move (.tmp 43), none⟩,
    ⟨some 44, .extract (.tmp 40) 0, none⟩,
    ⟨some 45, .extract (.tmp 40) 1, none⟩,
    ⟨some 11, .assign (.tmp 44), none⟩,
    ⟨some 12, .assign (.tmp 45), none⟩]) (.seq (.seq (.reg [⟨some 46, .move (.tmp 10), none⟩,
    ⟨some 47, .binOp .neq 28 (.tmp 46) (.const (.int .i64 0)) 28, none⟩,
    ⟨some 48, .move (.tmp 47), none⟩,
    ⟨some 49, .move (.tmp 12), some (48, false)⟩,
    ⟨some 50, .binOp .neq 28 (.tmp 49) (.const (.int .i64 0)) 28, some (48, false)⟩,
    ⟨some 51, .pick (.tmp 48) (.const (.bool true)) (.tmp 50), none⟩]) (.cond (.tmp 51) (.seq (.reg [⟨some 6, .assign (.const (.bool true)), none⟩]) .ret) .skip)) (.seq (.draw [(0, [], ⟨some 53, .load 27 (.tmp 7), none⟩),
    (1, [], ⟨some 54, .move (.tmp 11), none⟩),
    (2, [], ⟨some 55, .move (.tmp 1), none⟩),
    (3, [0], ⟨some 56, .call { callee := .value (.func 23), args := #[.tmp 54, .tmp 55], argTypes := #[22, 22] }, none⟩),
    (4, [], ⟨some 57, .call { callee := .value (.func 22), args := #[.tmp 53, .tmp 56], argTypes := #[27, 22] }, none⟩),
    (5, [], ⟨some 52, .move (.tmp 57), none⟩),
    (6, [], ⟨some 58, .extract (.tmp 52) 0, none⟩),
    (7, [], ⟨some 59, .extract (.tmp 52) 1, none⟩),
    (8, [], ⟨some 13, .assign (.tmp 58), none⟩),
    (9, [], ⟨some 14, .assign (.tmp 59), none⟩)]) (.seq (.reg [⟨some 60, .move (.tmp 13), none⟩,
    ⟨some 61, .move (.tmp 60), none⟩,
    ⟨some 62, .move (.tmp 14), some (61, true)⟩,
    ⟨some 63, .binOp .eql 28 (.tmp 62) (.const (.int .i64 0)) 28, some (61, true)⟩,
    ⟨some 64, .pick (.tmp 61) (.tmp 63) (.const (.bool false)), none⟩,
    ⟨some 6, .assign (.tmp 64), none⟩]) .ret)))))))
theorem at4 {args : List AV} {H : AH} {Q : AV → AH → Prop} (hl : args.length ≤ 65) (h : swp Tryz.prog s4 (fin Tryz.prog [.tmp 6] Q) (env0 args) H) : AC Tryz.prog 4 args H Q :=
  AC.of (pl4) Tryz.func4 rfl (by kernel_rfl) mixed (by kernel_rfl) (by kernel_rfl) rfl hl h
/-! ### function 5: codewright/codewrightlaw25.InfosetRanks -/
def s5 : SC :=
  .seq (.reg [⟨some 2, .box 27 (.tmp 0), none⟩,
    ⟨some 4, .assign (.const (.bool false)), none⟩]) (.seq (.seq (.reg [⟨some 17, .call { callee := .value (.func 24), args := #[], argTypes := #[] }, none⟩,
    ⟨some 18, .unOp .not 4 (.tmp 17), none⟩,
    ⟨some 19, .move (.tmp 18), none⟩,
    ⟨some 20, .load 27 (.tmp 2), some (19, false)⟩,
    ⟨some 21, .call { callee := .value (.func 25), args := #[.tmp 20], argTypes := #[27] }, some (19, false)⟩,
    ⟨some 22, .unOp .not 4 (.tmp 21), some (19, false)⟩,
    ⟨some 23, .pick (.tmp 19) (.const (.bool true)) (.tmp 22), none⟩,
    ⟨some 24, .move (.tmp 23), none⟩,
    ⟨some 25, .move (.tmp 1), some (24, false)⟩,
    ⟨some 26, .call { callee := .builtin .len, args := #[.tmp 25], argTypes := #[22] }, some (24, false)⟩,
    ⟨some 27, .binOp .gtr 3 (.tmp 26) (.const (.int .i64 100)) 3, some (24, false)⟩,
    ⟨some 28, .pick (.tmp 24) (.const (.bool true)) (.tmp 27), none⟩]) (.cond (.tmp 28) (.seq (.reg [⟨some 29, .call { callee := .value (.func 24), args := #[], argTypes := #[] }, none⟩,
    ⟨some 4, .assign (.tmp 29), none⟩]) .ret) .skip)) (.seq (.reg [⟨some 31, .load 27 (.tmp 2), none⟩,
    ⟨some 32, .move (.tmp 1), none⟩,
    ⟨some 33, .call { callee := .value (.func 26), args := #[.tmp 31, .tmp 32], argTypes := #[27, 22] }, none⟩,
    ⟨some 30, .move (.tmp 33), none⟩,
    ⟨some 34, .extract (.tmp 30) 0, none⟩,
    ⟨some 35, .extract (.tmp 30) 1, none⟩,
    ⟨some 5, .assign (.tmp 34), none⟩,
    ⟨some 6, .assign (.tmp 35), none⟩]) (.seq (.reg [⟨some 37, .load 27 (.tmp 2), none⟩,
    ⟨some 38, .move (.tmp 1), none⟩,
    ⟨some 39, .call { callee := .value (.func 27), args := #[.tmp 37, .tmp 38], argTypes := #[27, 22] }, none⟩,
    ⟨some 36, .move (.tmp 39), none⟩,
    ⟨some 40, .extract (.tmp 36) 0, none⟩,
    ⟨some 41, .extract (.tmp 36) 1, none⟩,
    ⟨some 7, .assign (.tmp 40), none⟩,
    ⟨some 8, .assign (.tmp 41), none⟩]) (.seq (.reg [⟨some 43, .load 27 (.tmp 2), none⟩,
    ⟨some 44, .move (.tmp 1), none⟩,
    ⟨some 45, .call { callee := .value (.func 28), args := #[.tmp 43, .tmp 44], argTypes := #[27, 22] }, none⟩,
    ⟨some 42, .move (.tmp 45), none⟩,
    ⟨some 46, .extract (.tmp 42) 0, none⟩,
    ⟨some 47, .extract (.tmp 42) 1, none⟩,
    ⟨some 9, .assign (.tmp 46), none⟩,
    ⟨some 10, .assign (.tmp 47), none⟩]) (.seq (.reg [⟨some 49, .load 27 (.tmp 2), none⟩,
    ⟨some 50, .move (.tmp 1), none⟩,
    ⟨some 51, .call { callee := .value (.func 29), args := #[.tmp 49, .tmp 50], argTypes := #[27, 22] }, none⟩,
    ⟨some 48, .move (.tmp 51), none⟩,
    ⟨some 52, .extract (.tmp 48) 0, none⟩,
    ⟨some 53, .extract (.tmp 48) 1, none⟩,
    ⟨some 11, .assign (.tmp 52), none⟩,
    ⟨some 12, .assign (.tmp 53), none⟩]) (.seq (.reg [⟨some 55, .load 27 (.tmp 2), none⟩,
    ⟨some 56, .move (.tmp 1), none⟩,
    ⟨some 57, .call { callee := .value (.func 30), args := #[.tmp 55, .tmp 56], argTypes := #[27, 22] }, none⟩,
    ⟨some 54, .move (.tmp 57), none⟩,
    ⟨some 58, .extract (.tmp 54) 0, none⟩,
    ⟨some 59, .extract (.tmp 54) 1, none⟩,
    ⟨some 13, .assign (.tmp 58), none⟩,
    ⟨some 14, .assign (.tmp 59), none⟩]) (.seq (.reg [⟨some 61, .load 27 (.tmp 2), none⟩,
    ⟨some 62, .move (.tmp 1), none⟩,
    ⟨some 63, .call { callee := .value (.func 31), args := #[.tmp 61, .tmp 62], argTypes := #[27, 22] }, none⟩,
    ⟨some 60, .move (.tmp 63), none⟩,
    ⟨some 64, .extract (.tmp 60) 0, none⟩,
    ⟨some 65, .extract (.tmp 60) 1, none⟩,
    ⟨some 15, .assign (.tmp 64), none⟩,
    ⟨some 16, .assign (.tmp 65), none⟩]) (.seq (.reg [⟨some 66, .move (.tmp 6), none⟩,
    ⟨some 67, .move (.tmp 8), none⟩,
    ⟨some 68, .binOp .eql 28 (.tmp 66) (.tmp 67) 28, none⟩,
    ⟨some 69, .move (.tmp 68), none⟩,
    ⟨some 70, .move (.tmp 5), some (69, true)⟩,
    ⟨some 71, .move (.tmp 7), some (69, true)⟩,
    ⟨some 72, .binOp .eql 3 (.tmp 70) (.tmp 71) 3, some (69, true)⟩,
    ⟨some 73, .pick (.tmp 69) (.tmp 72) (.const (.bool false)), none⟩,
    ⟨some 74, .move (.tmp 73), none⟩,
    ⟨some 75, .move (.tmp 10), some (74, true)⟩,
    ⟨some 76, .move (.tmp 12), some (74, true)⟩,
    ⟨some 77, .binOp .eql 28 (.tmp 75) (.tmp 76) 28, some (74, true)⟩,
    ⟨some 78, .pick (.tmp 74) (.tmp 77) (.const (.bool false)), none⟩,
    ⟨some 79, .move (.tmp 78), none⟩,
    ⟨some 80, .move (.tmp 9), some (79, true)⟩,
    ⟨some 81, .move (.tmp 11), some (79, true)⟩,
    ⟨some 82, .binOp .eql 4 (.tmp 80) (.tmp 81) 4, some (79, true)⟩,
    ⟨some 83, .pick (.tmp 79) (.tmp 82) (.const (.bool false)), none⟩,
    ⟨some 84, .move (.tmp 83), none⟩,
    ⟨some 85, .move (.tmp 14), some (84, true)⟩,
    ⟨some 86, .move (.tmp 16), some (84, true)⟩,
    ⟨some 87, .binOp .eql 28 (.tmp 85) (.tmp 86) 28, some (84, true)⟩,
    ⟨some 88, .pick (.tmp 84) (.tmp 87) (.const (.bool false)), none⟩,
    ⟨some 89, .move (.tmp 88), none⟩,
    ⟨some 90, .move (.tmp 13), some (89, true)⟩,
    ⟨some 91, .move (.tmp 15), some (89, true)⟩,
    ⟨some 92, .call { callee := .value (.func 32), args := #[.tmp 90, .tmp 91], argTypes := #[22, 22] }, some (89, true)⟩,
    ⟨some 93, .pick (.tmp 89) (.tmp 92) (.const (.bool false)), none⟩,
    ⟨some 4, .assign (.tmp 93), none⟩]) .ret))))))))
/-! ### function 6: codewright/codewrightlaw25.InfosetExchange -/
def s6 : SC :=
  .seq (.reg [⟨some 3, .box 27 (.tmp 0), none⟩,
    ⟨some 4, .box 45 (.tmp 1), none⟩,
    ⟨some 6, .assign (.const (.bool false)), none⟩]) (.seq (.seq (.reg [⟨some 11, .call { callee := .value (.func 24), args := #[], argTypes := #[] }, none⟩,
    ⟨some 12, .unOp .not 4 (.tmp 11), none⟩,
    ⟨some 13, .move (.tmp 12), none⟩,
    ⟨some 14, .load 27 (.tmp 3), some (13, false)⟩,
    ⟨some 15, .call { callee := .value (.func 25), args := #[.tmp 14], argTypes := #[27] }, some (13, false)⟩,
    ⟨some 16, .unOp .not 4 (.tmp 15), some (13, false)⟩,
    ⟨some 17, .pick (.tmp 13) (.const (.bool true)) (.tmp 16), none⟩,
    ⟨some 18, .move (.tmp 17), none⟩,
    ⟨some 19, .indexAddr 45 (.tmp 4) (.const (.int .i64 0)), some (18, false)⟩,
    ⟨some 20, .load 22 (.tmp 19), some (18, false)⟩,
    ⟨some 21, .call { callee := .builtin .len, args := #[.tmp 20], argTypes := #[22] }, some (18, false)⟩,
    ⟨some 22, .binOp .gtr 3 (.tmp 21) (.const (.int .i64 100)) 3, some (18, false)⟩,
    ⟨some 23, .pick (.tmp 18) (.const (.bool true)) (.tmp 22), none⟩,
    ⟨some 24, .move (.tmp 23), none⟩,
    ⟨some 25, .indexAddr 45 (.tmp 4) (.const (.int .i64 1)), some (24, false)⟩,
    ⟨some 26, .load 22 (.tmp 25), some (24, false)⟩,
    ⟨some 27, .call { callee := .builtin .len, args := #[.tmp 26], argTypes := #[22] }, some (24, false)⟩,
    ⟨some 28, .binOp .gtr 3 (.tmp 27) (.const (.int .i64 100)) 3, some (24, false)⟩,
    ⟨some 29, .pick (.tmp 24) (.const (.bool true)) (.tmp 28), none⟩]) (.cond (.tmp 29) (.seq (.reg [⟨some 30, .call { callee := .value (.func 24), args := #[], argTypes := #[] }, none⟩,
    ⟨some 6, .assign (.tmp 30), none⟩]) .ret) .skip)) (.seq (.reg [⟨some 32, .load 27 (.tmp 3), none⟩,
    ⟨some 33, .indexAddr 45 (.tmp 4) (.const (.int .i64 0)), none⟩,
    ⟨some 34, .load 22 (.tmp 33), none⟩,
    ⟨some 35, .indexAddr 45 (.tmp 4) (.const (.int .i64 1)), none⟩,
    ⟨some 36, .load 22 (.tmp 35), none⟩,
    ⟨some 37, .move (.tmp 2), none⟩,
    ⟨some 38, .call { callee := .value (.func 33), args := #[.tmp 32, .tmp 34, .tmp 36, .tmp 37], argTypes := #[27, 22, 22, 3] }, none⟩,
    ⟨some 31, .move (.tmp 38), none⟩,
    ⟨some 39, .extract (.tmp 31) 0, none⟩,
    ⟨some 40, .extract (.tmp 31) 1, none⟩,
    ⟨some 7, .assign (.tmp 39), none⟩,
    ⟨some 8, .assign (.tmp 40), none⟩]) (.seq (.reg [⟨some 42, .load 27 (.tmp 3), none⟩,
    ⟨some 43, .indexAddr 45 (.tmp 4) (.const (.int .i64 0)), none⟩,
    ⟨some 44, .load 22 (.tmp 43), none⟩,
    ⟨some 45, .indexAddr 45 (.tmp 4) (.const (.int .i64 1)), none⟩,
    ⟨some 46, .load 22 (.tmp 45), none⟩,
    ⟨some 47, .move (.tmp 2), none⟩,
    ⟨some 48, .call { callee := .value (.func 34), args := #[.tmp 42, .tmp 44, .tmp 46, .tmp 47], argTypes := #[27, 22, 22, 3] }, none⟩,
    ⟨some 41, .move (.tmp 48), none⟩,
    ⟨some 49, .extract (.tmp 41) 0, none⟩,
    ⟨some 50, .extract (.tmp 41) 1, none⟩,
    ⟨some 9, .assign (.tmp 49), none⟩,
    ⟨some 10, .assign (.tmp 50), none⟩]) (.seq (.reg [⟨some 51, .move (.tmp 8), none⟩,
    ⟨some 52, .move (.tmp 10), none⟩,
    ⟨some 53, .binOp .eql 28 (.tmp 51) (.tmp 52) 28, none⟩,
    ⟨some 54, .move (.tmp 53), none⟩,
    ⟨some 55, .move (.tmp 7), some (54, true)⟩,
    ⟨some 56, .move (.tmp 9), some (54, true)⟩,
    ⟨some 57, .binOp .eql 3 (.tmp 55) (.tmp 56) 3, some (54, true)⟩,
    ⟨some 58, .pick (.tmp 54) (.tmp 57) (.const (.bool false)), none⟩,
    ⟨some 6, .assign (.tmp 58), none⟩]) .ret))))
/-! ### function 14: codewright/ordering.Width -/
/-! ### function 15: codewright/codewrightref48.Width -/
/-! ### function 16: codewright/codewrightlaw48.alive -/
def s16 : SC :=
  .seq (.reg [⟨some 0, .assign (.const (.bool false)), none⟩]) (.seq (.reg [⟨some 4, .build 24 #[(0, .const (.int .i64 2)), (1, .const (.int .i64 1))], none⟩,
    ⟨some 5, .buildSlice 22 2 #[(0, .const (.int .i64 1)), (1, .const (.int .i64 1))], none⟩,
    ⟨some 6, .buildSlice 25 1 #[(0, .tmp 5)], none⟩,
    ⟨some 7, .build 27 #[(0, .tmp 4), (1, .const (.int .i64 2)), (2, .tmp 6)], none⟩,
    ⟨some 8, .buildSlice 22 1 #[(0, .const (.int .i64 0))], none⟩,
    ⟨some 9, .call { callee := .value (.func 61), args := #[.tmp 7, .tmp 8], argTypes := #[27, 22] }, none⟩,
    ⟨some 3, .move (.tmp 9), none⟩,
    ⟨some 10, .extract (.tmp 3) 0, none⟩,
    ⟨some 11, .extract (.tmp 3) 1, none⟩,
    ⟨some 1, .assign (.tmp 10), none⟩,
    ⟨some 2, .assign (.tmp 11), none⟩]) (.seq (.reg [⟨some 12, .move (.tmp 1), none⟩,
    ⟨some 13, .binOp .eql 3 (.tmp 12) (.const (.int .i64 1)) 3, none⟩,
    ⟨some 14, .move (.tmp 13), none⟩,
    ⟨some 15, .move (.tmp 2), some (14, true)⟩,
    ⟨some 16, .binOp .eql 28 (.tmp 15) (.const (.int .i64 0)) 28, some (14, true)⟩,
    ⟨some 17, .pick (.tmp 14) (.tmp 16) (.const (.bool false)), none⟩,
    ⟨some 0, .assign (.tmp 17), none⟩]) .ret))
theorem at16 {args : List AV} {H : AH} {Q : AV → AH → Prop} (hl : args.length ≤ 18) (h : swp Tryz.prog s16 (fin Tryz.prog [.tmp 0] Q) (env0 args) H) : AC Tryz.prog 16 args H Q :=
  AC.of (fun _ => []) Tryz.func16 rfl (by kernel_rfl) mixed (by kernel_rfl) (by kernel_rfl) rfl hl h
/-! ### function 17: codewright/ordering.Reorder -/
def s17 : SC :=
  .seq (.reg [⟨some 2, .box 27 (.tmp 0), none⟩,
    ⟨some 4, .alloc 27, none⟩,
    ⟨some 5, .assign (.const (.int .i64 0)), none⟩]) (.seq (.seq (.reg [⟨some 10, .load 27 (.tmp 2), none⟩,
    ⟨some 11, .move (.tmp 1), none⟩,
    ⟨some 12, .call { callee := .value (.func 57), args := #[.tmp 10, .tmp 11], argTypes := #[27, 22] }, none⟩,
    ⟨some 6, .assign (.tmp 12), none⟩]) (.seq (.reg [⟨some 13, .move (.tmp 6), none⟩,
    ⟨some 14, .binOp .neq 28 (.tmp 13) (.const (.int .i64 0)) 28, none⟩]) (.cond (.tmp 14) (.seq (.reg [⟨some 15, .build 27 #[], none⟩,
    ⟨some 16, .move (.tmp 6), none⟩,
    ⟨none, .store 27 (.tmp 4) (.tmp 15), none⟩,
    ⟨some 5, .assign (.tmp 16), none⟩]) .ret) .skip))) (.seq (.reg [⟨some 17, .fieldAddr 27 (.tmp 2) 1, none⟩,
    ⟨some 18, .load 3 (.tmp 17), none⟩,
    ⟨some 19, .makeSlice 22 (.tmp 18) (.tmp 18), none⟩,
    ⟨some 7, .assign (.tmp 19), none⟩]) (.seq (.seq (.reg [⟨some 20, .move (.tmp 1), none⟩,
    ⟨some 21, .call { callee := .builtin .len, args := #[.tmp 20], argTypes := #[22] }, none⟩,
    ⟨some 22, .move (.const (.int .i64 0)), none⟩]) (.block 0 (.loop (.seq (.reg [⟨some 23, .binOp .lss 3 (.tmp 22) (.tmp 21) 3, none⟩]) (.seq (.cond (.tmp 23) .skip (.exit 0)) (.seq (.block 1 (.seq (.reg [⟨some 24, .move (.tmp 22), none⟩,
    ⟨some 25, .indexAddr 22 (.tmp 20) (.tmp 22), none⟩,
    ⟨some 26, .load 3 (.tmp 25), none⟩,
    ⟨some 8, .assign (.tmp 24), none⟩,
    ⟨some 9, .assign (.tmp 26), none⟩]) (.reg [⟨some 27, .move (.tmp 7), none⟩,
    ⟨some 28, .move (.tmp 9), none⟩,
    ⟨some 29, .move (.tmp 8), none⟩,
    ⟨some 30, .indexAddr 22 (.tmp 27) (.tmp 28), none⟩,
    ⟨none, .store 3 (.tmp 30) (.tmp 29), none⟩]))) (.reg [⟨some 31, .binOp .add 3 (.tmp 22) (.const (.int .i64 1)) 3, none⟩,
    ⟨some 22, .move (.tmp 31), none⟩]))))))) (.seq (.reg [⟨some 32, .load 27 (.tmp 2), none⟩,
    ⟨some 33, .move (.tmp 7), none⟩,
    ⟨some 34, .call { callee := .value (.func 62), args := #[.tmp 32, .tmp 33], argTypes := #[27, 22] }, none⟩,
    ⟨some 35, .extract (.tmp 34) 0, none⟩,
    ⟨some 36, .extract (.tmp 34) 1, none⟩,
    ⟨none, .store 27 (.tmp 4) (.tmp 35), none⟩,
    ⟨some 5, .assign (.tmp 36), none⟩]) .ret))))
theorem at17 {args : List AV} {H : AH} {Q : AV → AH → Prop} (hl : args.length ≤ 37) (h : swp Tryz.prog s17 (fin Tryz.prog [.cell 4 27, .tmp 5] Q) (env0 args) H) : AC Tryz.prog 17 args H Q :=
  AC.of (fun _ => []) Tryz.func17 rfl (by kernel_rfl) mixed (by kernel_rfl) (by kernel_rfl) rfl hl h
/-! ### function 18: codewright/trellis.Profile -/
/-! ### function 19: codewright/codewrightref48.Reorder -/
def s19 : SC :=
  .seq (.reg [⟨some 2, .box 27 (.tmp 0), none⟩,
    ⟨some 4, .alloc 27, none⟩,
    ⟨some 5, .assign (.const (.int .i64 0)), none⟩]) (.seq (.reg [⟨some 9, .load 27 (.tmp 2), none⟩,
    ⟨some 10, .move (.tmp 1), none⟩,
    ⟨some 11, .call { callee := .value (.func 59), args := #[.tmp 9, .tmp 10], argTypes := #[27, 22] }, none⟩,
    ⟨some 6, .assign (.tmp 11), none⟩]) (.seq (.seq (.reg [⟨some 12, .move (.tmp 6), none⟩,
    ⟨some 13, .binOp .neq 28 (.tmp 12) (.const (.int .i64 0)) 28, none⟩]) (.cond (.tmp 13) (.seq (.reg [⟨some 14, .build 27 #[], none⟩,
    ⟨some 15, .move (.tmp 6), none⟩,
    ⟨none, .store 27 (.tmp 4) (.tmp 14), none⟩,
    ⟨some 5, .assign (.tmp 15), none⟩]) .ret) .skip)) (.seq (.reg [⟨some 16, .buildSlice 25 0 #[], none⟩,
    ⟨some 7, .assign (.tmp 16), none⟩]) (.seq (.seq (.reg [⟨some 8, .assign (.const (.int .i64 0)), none⟩]) (.block 0 (.loop (.seq (.seq (.reg [⟨some 17, .move (.tmp 8), none⟩,
    ⟨some 18, .fieldAddr 27 (.tmp 2) 2, none⟩,
    ⟨some 19, .load 25 (.tmp 18), none⟩,
    ⟨some 20, .call { callee := .builtin .len, args := #[.tmp 19], argTypes := #[25] }, none⟩,
    ⟨some 21, .binOp .lss 3 (.tmp 17) (.tmp 20) 3, none⟩]) (.cond (.tmp 21) .skip (.exit 0))) (.seq (.block 1 (.reg [⟨some 24, .move (.tmp 7), none⟩,
    ⟨some 25, .fieldAddr 27 (.tmp 2) 2, none⟩,
    ⟨some 26, .load 25 (.tmp 25), none⟩,
    ⟨some 27, .move (.tmp 8), none⟩,
    ⟨some 28, .indexAddr 25 (.tmp 26) (.tmp 27), none⟩,
    ⟨some 29, .load 22 (.tmp 28), none⟩,
    ⟨some 30, .move (.tmp 1), none⟩,
    ⟨some 31, .call { callee := .value (.func 23), args := #[.tmp 29, .tmp 30], argTypes := #[22, 22] }, none⟩,
    ⟨some 32, .buildSlice 25 1 #[(0, .tmp 31)], none⟩,
    ⟨some 33, .call { callee := .builtin .append, args := #[.tmp 24, .tmp 32], argTypes := #[25, 25] }, none⟩,
    ⟨some 7, .assign (.tmp 33), none⟩])) (.reg [⟨some 22, .move (.tmp 8), none⟩,
    ⟨some 23, .binOp .add 3 (.tmp 22) (.const (.int .i64 1)) 3, none⟩,
    ⟨some 8, .assign (.tmp 23), none⟩])))))) (.seq (.reg [⟨some 34, .fieldAddr 27 (.tmp 2) 0, none⟩,
    ⟨some 35, .load 24 (.tmp 34), none⟩,
    ⟨some 36, .move (.tmp 7), none⟩,
    ⟨some 37, .fieldAddr 27 (.tmp 2) 1, none⟩,
    ⟨some 38, .load 3 (.tmp 37), none⟩,
    ⟨some 39, .call { callee := .value (.func 65), args := #[.tmp 35, .tmp 36, .tmp 38], argTypes := #[24, 25, 3] }, none⟩,
    ⟨none, .store 27 (.tmp 4) (.tmp 39), none⟩,
    ⟨some 5, .assign (.const (.int .i64 0)), none⟩]) .ret)))))
theorem at19 {args : List AV} {H : AH} {Q : AV → AH → Prop} (hl : args.length ≤ 40) (h : swp Tryz.prog s19 (fin Tryz.prog [.cell 4 27, .tmp 5] Q) (env0 args) H) : AC Tryz.prog 19 args H Q :=
  AC.of (fun _ => []) Tryz.func19 rfl (by kernel_rfl) mixed (by kernel_rfl) (by kernel_rfl) rfl hl h
/-! ### function 20: codewright/codewrightref12.Same -/
def s20 : SC :=
  .seq (.reg [⟨some 2, .box 27 (.tmp 0), none⟩,
    ⟨some 3, .box 27 (.tmp 1), none⟩,
    ⟨some 4, .assign (.const (.bool false)), none⟩]) (.seq (.reg [⟨some 5, .fieldAddr 27 (.tmp 2) 0, none⟩,
    ⟨some 6, .load 24 (.tmp 5), none⟩,
    ⟨some 7, .fieldAddr 27 (.tmp 3) 0, none⟩,
    ⟨some 8, .load 24 (.tmp 7), none⟩,
    ⟨some 9, .call { callee := .value (.func 66), args := #[.tmp 6, .tmp 8], argTypes := #[24, 24] }, none⟩,
    ⟨some 10, .move (.tmp 9), none⟩,
    ⟨some 11, .fieldAddr 27 (.tmp 2) 1, some (10, true)⟩,
    ⟨some 12, .load 3 (.tmp 11), some (10, true)⟩,
    ⟨some 13, .fieldAddr 27 (.tmp 3) 1, some (10, true)⟩,
    ⟨some 14, .load 3 (.tmp 13), some (10, true)⟩,
    ⟨some 15, .binOp .eql 3 (.tmp 12) (.tmp 14) 3, some (10, true)⟩,
    ⟨some 16, .pick (.tmp 10) (.tmp 15) (.const (.bool false)), none⟩,
    ⟨some 17, .move (.tmp 16), none⟩,
    ⟨some 18, .fieldAddr 27 (.tmp 2) 2, some (17, true)⟩,
    ⟨some 19, .load 25 (.tmp 18), some (17, true)⟩,
    ⟨some 20, .fieldAddr 27 (.tmp 3) 2, some (17, true)⟩,
    ⟨some 21, .load 25 (.tmp 20), some (17, true)⟩,
    ⟨some 22, .call { callee := .value (.func 46), args := #[.tmp 19, .tmp 21], argTypes := #[25, 25] }, some (17, true)⟩,
    ⟨some 23, .pick (.tmp 17) (.tmp 22) (.const (.bool false)), none⟩,
    ⟨some 4, .assign (.tmp 23), none⟩]) .ret)
theorem at20 {args : List AV} {H : AH} {Q : AV → AH → Prop} (hl : args.length ≤ 24) (h : swp Tryz.prog s20 (fin Tryz.prog [.tmp 4] Q) (env0 args) H) : AC Tryz.prog 20 args H Q :=
  AC.of (fun _ => []) Tryz.func20 rfl (by kernel_rfl) mixed (by kernel_rfl) (by kernel_rfl) rfl hl h
/-! ### function 21: codewright/codewrightref12.Encode -/
def s21 : SC :=
  .seq (.reg [⟨some 2, .box 27 (.tmp 0), none⟩,
    ⟨some 4, .assign (.const (.slice none 0 0)), none⟩,
    ⟨some 5, .assign (.const (.int .i64 0)), none⟩]) (.seq (.reg [⟨some 7, .load 27 (.tmp 2), none⟩,
    ⟨some 8, .call { callee := .value (.func 35), args := #[.tmp 7], argTypes := #[27] }, none⟩,
    ⟨some 6, .assign (.tmp 8), none⟩]) (.seq (.seq (.reg [⟨some 9, .move (.tmp 6), none⟩,
    ⟨some 10, .binOp .eql 28 (.tmp 9) (.const (.int .i64 0)) 28, none⟩]) (.cond (.tmp 10) (.reg [⟨some 11, .fieldAddr 27 (.tmp 2) 0, none⟩,
    ⟨some 12, .load 24 (.tmp 11), none⟩,
    ⟨some 13, .move (.tmp 1), none⟩,
    ⟨some 14, .fieldAddr 27 (.tmp 2) 2, none⟩,
    ⟨some 15, .load 25 (.tmp 14), none⟩,
    ⟨some 16, .call { callee := .builtin .len, args := #[.tmp 15], argTypes := #[25] }, none⟩,
    ⟨some 17, .call { callee := .value (.func 53), args := #[.tmp 12, .tmp 13, .tmp 16], argTypes := #[24, 22, 3] }, none⟩,
    ⟨some 6, .assign (.tmp 17), none⟩]) .skip)) (.seq (.seq (.reg [⟨some 18, .move (.tmp 6), none⟩,
    ⟨some 19, .binOp .neq 28 (.tmp 18) (.const (.int .i64 0)) 28, none⟩]) (.cond (.tmp 19) (.seq (.reg [⟨some 20, .move (.tmp 6), none⟩,
    ⟨some 4, .assign (.const (.slice none 0 0)), none⟩,
    ⟨some 5, .assign (.tmp 20), none⟩]) .ret) .skip)) (.seq (.reg [⟨some 21, .fieldAddr 27 (.tmp 2) 0, none⟩,
    ⟨some 22, .load 24 (.tmp 21), none⟩,
    ⟨some 23, .move (.tmp 1), none⟩,
    ⟨some 24, .fieldAddr 27 (.tmp 2) 2, none⟩,
    ⟨some 25, .load 25 (.tmp 24), none⟩,
    ⟨some 26, .fieldAddr 27 (.tmp 2) 1, none⟩,
    ⟨some 27, .load 3 (.tmp 26), none⟩,
    ⟨some 28, .call { callee := .value (.func 67), args := #[.tmp 22, .tmp 23, .tmp 25, .tmp 27], argTypes := #[24, 22, 25, 3] }, none⟩,
    ⟨some 4, .assign (.tmp 28), none⟩,
    ⟨some 5, .assign (.const (.int .i64 0)), none⟩]) .ret))))
theorem at21 {args : List AV} {H : AH} {Q : AV → AH → Prop} (hl : args.length ≤ 29) (h : swp Tryz.prog s21 (fin Tryz.prog [.tmp 4, .tmp 5] Q) (env0 args) H) : AC Tryz.prog 21 args H Q :=
  AC.of (fun _ => []) Tryz.func21 rfl (by kernel_rfl) mixed (by kernel_rfl) (by kernel_rfl) rfl hl h
/-! ### function 22: codewright/code.Has -/
def pl22 : Nat → Plan
  | 4 => [(0, []), (1, []), (2, []), (4, []), (3, [1]), (5, []), (6, []), (7, []), (8, []), (9, [])]
  | _ => []
def s22 : SC :=
  .seq (.reg [⟨some 2, .box 27 (.tmp 0), none⟩,
    ⟨some 4, .assign (.const (.bool false)), none⟩,
    ⟨some 5, .assign (.const (.int .i64 0)), none⟩]) (.seq (.seq (.reg [⟨some 7, .load 27 (.tmp 2), none⟩,
    ⟨some 8, .move (.tmp 1), none⟩,
    ⟨some 9, .call { callee := .value (.func 68), args := #[.tmp 7, .tmp 8], argTypes := #[27, 22] }, none⟩,
    ⟨some 6, .assign (.tmp 9), none⟩]) (.seq (.reg [⟨some 10, .move (.tmp 6), none⟩,
    ⟨some 11, .binOp .neq 28 (.tmp 10) (.const (.int .i64 0)) 28, none⟩]) (.cond (.tmp 11) (.seq (.reg [⟨some 12, .move (.tmp 6), none⟩,
    ⟨some 4, .assign (.const (.bool false)), none⟩,
    ⟨some 5, .assign (.tmp 12), none⟩]) .ret) .skip))) (.seq (.draw [(0, [], ⟨some 13, .fieldAddr 27 (.tmp 2) 0, none⟩),
    (1, [], ⟨some 14, .load 24 (.tmp 13), none⟩),
    (2, [], ⟨some 15, .load 27 (.tmp 2), none⟩),
    (4, [], ⟨some 17, .move (.tmp 1), none⟩),
    (3, [1], ⟨some 16, .call { callee := .value (.func 70), args := #[.tmp 15], argTypes := #[27] }, none⟩),
    (5, [], ⟨some 18, .call { callee := .value (.func 69), args := #[.tmp 14, .tmp 16, .tmp 17], argTypes := #[24, 62, 22] }, none⟩),
    (6, [], ⟨some 19, .extract (.tmp 18) 0, none⟩),
    (7, [], ⟨some 20, .extract (.tmp 18) 1, none⟩),
    (8, [], ⟨some 4, .assign (.tmp 19), none⟩),
    (9, [], ⟨some 5, .assign (.tmp 20), none⟩)]) .ret))
theorem at22 {args : List AV} {H : AH} {Q : AV → AH → Prop} (hl : args.length ≤ 21) (h : swp Tryz.prog s22 (fin Tryz.prog [.tmp 4, .tmp 5] Q) (env0 args) H) : AC Tryz.prog 22 args H Q :=
  AC.of (pl22) Tryz.func22 rfl (by kernel_rfl) mixed (by kernel_rfl) (by kernel_rfl) rfl hl h
/-! ### function 23: codewright/codewrightref09.Pick -/
def s23 : SC :=
  .seq (.reg [⟨some 4, .assign (.const (.slice none 0 0)), none⟩]) (.seq (.reg [⟨some 7, .move (.tmp 1), none⟩,
    ⟨some 8, .call { callee := .builtin .len, args := #[.tmp 7], argTypes := #[22] }, none⟩,
    ⟨some 9, .makeSlice 22 (.tmp 8) (.tmp 8), none⟩,
    ⟨some 5, .assign (.tmp 9), none⟩]) (.seq (.seq (.reg [⟨some 6, .assign (.const (.int .i64 0)), none⟩]) (.block 0 (.loop (.seq (.seq (.reg [⟨some 10, .move (.tmp 6), none⟩,
    ⟨some 11, .move (.tmp 1), none⟩,
    ⟨some 12, .call { callee := .builtin .len, args := #[.tmp 11], argTypes := #[22] }, none⟩,
    ⟨some 13, .binOp .lss 3 (.tmp 10) (.tmp 12) 3, none⟩]) (.cond (.tmp 13) .skip (.exit 0))) (.seq (.block 1 (.reg [⟨some 16, .move (.tmp 5), none⟩,
    ⟨some 17, .move (.tmp 6), none⟩,
    ⟨some 18, .move (.tmp 0), none⟩,
    ⟨some 19, .move (.tmp 1), none⟩,
    ⟨some 20, .move (.tmp 6), none⟩,
    ⟨some 21, .indexAddr 22 (.tmp 19) (.tmp 20), none⟩,
    ⟨some 22, .load 3 (.tmp 21), none⟩,
    ⟨some 23, .indexAddr 22 (.tmp 18) (.tmp 22), none⟩,
    ⟨some 24, .load 3 (.tmp 23), none⟩,
    ⟨some 25, .indexAddr 22 (.tmp 16) (.tmp 17), none⟩,
    ⟨none, .store 3 (.tmp 25) (.tmp 24), none⟩])) (.reg [⟨some 14, .move (.tmp 6), none⟩,
    ⟨some 15, .binOp .add 3 (.tmp 14) (.const (.int .i64 1)) 3, none⟩,
    ⟨some 6, .assign (.tmp 15), none⟩])))))) (.seq (.reg [⟨some 26, .move (.tmp 5), none⟩,
    ⟨some 4, .assign (.tmp 26), none⟩]) .ret)))
theorem at23 {args : List AV} {H : AH} {Q : AV → AH → Prop} (hl : args.length ≤ 27) (h : swp Tryz.prog s23 (fin Tryz.prog [.tmp 4] Q) (env0 args) H) : AC Tryz.prog 23 args H Q :=
  AC.of (fun _ => []) Tryz.func23 rfl (by kernel_rfl) mixed (by kernel_rfl) (by kernel_rfl) rfl hl h
/-! ### function 26: codewright/infoset.Rank -/
def s26 : SC :=
  .seq (.reg [⟨some 2, .box 27 (.tmp 0), none⟩,
    ⟨some 4, .assign (.const (.int .i64 0)), none⟩,
    ⟨some 5, .assign (.const (.int .i64 0)), none⟩]) (.seq (.reg [⟨some 9, .load 27 (.tmp 2), none⟩,
    ⟨some 10, .call { callee := .value (.func 72), args := #[.tmp 9], argTypes := #[27] }, none⟩,
    ⟨some 8, .move (.tmp 10), none⟩,
    ⟨some 11, .extract (.tmp 8) 0, none⟩,
    ⟨some 12, .extract (.tmp 8) 1, none⟩,
    ⟨some 6, .assign (.tmp 11), none⟩,
    ⟨some 7, .assign (.tmp 12), none⟩]) (.seq (.seq (.reg [⟨some 13, .move (.tmp 7), none⟩,
    ⟨some 14, .binOp .eql 28 (.tmp 13) (.const (.int .i64 0)) 28, none⟩]) (.cond (.tmp 14) (.reg [⟨some 15, .load 27 (.tmp 2), none⟩,
    ⟨some 16, .move (.tmp 1), none⟩,
    ⟨some 17, .buildSlice 25 1 #[(0, .tmp 16)], none⟩,
    ⟨some 18, .call { callee := .value (.func 73), args := #[.tmp 15, .tmp 17], argTypes := #[27, 25] }, none⟩,
    ⟨some 7, .assign (.tmp 18), none⟩]) .skip)) (.seq (.seq (.reg [⟨some 19, .move (.tmp 7), none⟩,
    ⟨some 20, .binOp .neq 28 (.tmp 19) (.const (.int .i64 0)) 28, none⟩]) (.cond (.tmp 20) (.seq (.reg [⟨some 21, .move (.tmp 7), none⟩,
    ⟨some 4, .assign (.const (.int .i64 0)), none⟩,
    ⟨some 5, .assign (.tmp 21), none⟩]) .ret) .skip)) (.seq (.reg [⟨some 22, .move (.tmp 6), none⟩,
    ⟨some 23, .load 27 (.tmp 2), none⟩,
    ⟨some 24, .move (.tmp 1), none⟩,
    ⟨some 25, .call { callee := .value (.func 74), args := #[.tmp 22, .tmp 23, .tmp 24], argTypes := #[89, 27, 22] }, none⟩,
    ⟨some 26, .call { callee := .builtin .len, args := #[.tmp 25], argTypes := #[22] }, none⟩,
    ⟨some 4, .assign (.tmp 26), none⟩,
    ⟨some 5, .assign (.const (.int .i64 0)), none⟩]) .ret))))
theorem at26 {args : List AV} {H : AH} {Q : AV → AH → Prop} (hl : args.length ≤ 27) (h : swp Tryz.prog s26 (fin Tryz.prog [.tmp 4, .tmp 5] Q) (env0 args) H) : AC Tryz.prog 26 args H Q :=
  AC.of (fun _ => []) Tryz.func26 rfl (by kernel_rfl) mixed (by kernel_rfl) (by kernel_rfl) rfl hl h
/-! ### function 32: codewright/codewrightref09.SameInts -/
def pl32 : Nat → Plan
  | 6 => [(0, []), (1, []), (2, []), (3, []), (4, []), (5, []), (6, []), (7, []), (8, [])]
  | _ => []
def s32 : SC :=
  .seq (.reg [⟨some 4, .assign (.const (.bool false)), none⟩]) (.seq (.seq (.reg [⟨some 6, .move (.tmp 0), none⟩,
    ⟨some 7, .call { callee := .builtin .len, args := #[.tmp 6], argTypes := #[22] }, none⟩,
    ⟨some 8, .move (.tmp 1), none⟩,
    ⟨some 9, .call { callee := .builtin .len, args := #[.tmp 8], argTypes := #[22] }, none⟩,
    ⟨some 10, .binOp .neq 3 (.tmp 7) (.tmp 9) 3, none⟩]) (.cond (.tmp 10) (.seq (.reg [⟨some 4, .assign (.const (.bool false)), none⟩]) .ret) .skip)) (.seq (.seq (.reg [⟨some 5, .assign (.const (.int .i64 0)), none⟩]) (.block 0 (.loop (.seq (.seq (.reg [⟨some 11, .move (.tmp 5), none⟩,
    ⟨some 12, .move (.tmp 0), none⟩,
    ⟨some 13, .call { callee := .builtin .len, args := #[.tmp 12], argTypes := #[22] }, none⟩,
    ⟨some 14, .binOp .lss 3 (.tmp 11) (.tmp 13) 3, none⟩]) (.cond (.tmp 14) .skip (.exit 0))) (.seq (.block 1 (.seq (.draw [(0, [], ⟨some 17, .move (.tmp 0), none⟩),
    (1, [], ⟨some 18, .move (.tmp 5), none⟩),
    (2, [], ⟨some 19, .indexAddr 22 (.tmp 17) (.tmp 18), none⟩),
    (3, [], ⟨some 20, .load 3 (.tmp 19), none⟩),
    (4, [], ⟨some 21, .move (.tmp 1), none⟩),
    (5, [], ⟨some 22, .move (.tmp 5), none⟩),
    (6, [], ⟨some 23, .indexAddr 22 (.tmp 21) (.tmp 22), none⟩),
    (7, [], ⟨some 24, .load 3 (.tmp 23), none⟩),
    (8, [], ⟨some 25, .binOp .neq 3 (.tmp 20) (.tmp 24) 3, none⟩)]) (.cond (.tmp 25) (.seq (.reg [⟨some 4, .assign (.const (.bool false)), none⟩]) .ret) .skip))) (.reg [⟨some 15, .move (.tmp 5), none⟩,
    ⟨some 16, .binOp .add 3 (.tmp 15) (.const (.int .i64 1)) 3, none⟩,
    ⟨some 5, .assign (.tmp 16), none⟩])))))) (.seq (.reg [⟨some 4, .assign (.const (.bool true)), none⟩]) .ret)))
theorem at32 {args : List AV} {H : AH} {Q : AV → AH → Prop} (hl : args.length ≤ 26) (h : swp Tryz.prog s32 (fin Tryz.prog [.tmp 4] Q) (env0 args) H) : AC Tryz.prog 32 args H Q :=
  AC.of (pl32) Tryz.func32 rfl (by kernel_rfl) mixed (by kernel_rfl) (by kernel_rfl) rfl hl h
/-! ### function 35: codewright/codewrightref12.Check -/
def s35 : SC :=
  .seq (.reg [⟨some 1, .box 27 (.tmp 0), none⟩,
    ⟨some 2, .assign (.const (.int .i64 0)), none⟩]) (.seq (.reg [⟨some 4, .fieldAddr 27 (.tmp 1) 0, none⟩,
    ⟨some 5, .load 24 (.tmp 4), none⟩,
    ⟨some 6, .call { callee := .value (.func 87), args := #[.tmp 5], argTypes := #[24] }, none⟩,
    ⟨some 3, .assign (.tmp 6), none⟩]) (.seq (.seq (.reg [⟨some 7, .move (.tmp 3), none⟩,
    ⟨some 8, .binOp .neq 28 (.tmp 7) (.const (.int .i64 0)) 28, none⟩]) (.cond (.tmp 8) (.seq (.reg [⟨some 9, .move (.tmp 3), none⟩,
    ⟨some 2, .assign (.tmp 9), none⟩]) .ret) .skip)) (.seq (.seq (.reg [⟨some 10, .fieldAddr 27 (.tmp 1) 1, none⟩,
    ⟨some 11, .load 3 (.tmp 10), none⟩,
    ⟨some 12, .binOp .lss 3 (.tmp 11) (.const (.int .i64 1)) 3, none⟩,
    ⟨some 13, .move (.tmp 12), none⟩,
    ⟨some 14, .fieldAddr 27 (.tmp 1) 1, some (13, false)⟩,
    ⟨some 15, .load 3 (.tmp 14), some (13, false)⟩,
    ⟨some 16, .binOp .gtr 3 (.tmp 15) (.const (.int .i64 64)) 3, some (13, false)⟩,
    ⟨some 17, .pick (.tmp 13) (.const (.bool true)) (.tmp 16), none⟩]) (.cond (.tmp 17) (.seq (.reg [⟨some 2, .assign (.const (.int .i64 4)), none⟩]) .ret) .skip)) (.seq (.reg [⟨some 18, .fieldAddr 27 (.tmp 1) 0, none⟩,
    ⟨some 19, .load 24 (.tmp 18), none⟩,
    ⟨some 20, .fieldAddr 27 (.tmp 1) 1, none⟩,
    ⟨some 21, .load 3 (.tmp 20), none⟩,
    ⟨some 22, .fieldAddr 27 (.tmp 1) 2, none⟩,
    ⟨some 23, .load 25 (.tmp 22), none⟩,
    ⟨some 24, .build 62 #[(0, .tmp 21), (1, .tmp 23)], none⟩,
    ⟨some 25, .call { callee := .value (.func 88), args := #[.tmp 19, .tmp 24], argTypes := #[24, 62] }, none⟩,
    ⟨some 2, .assign (.tmp 25), none⟩]) .ret))))
theorem at35 {args : List AV} {H : AH} {Q : AV → AH → Prop} (hl : args.length ≤ 26) (h : swp Tryz.prog s35 (fin Tryz.prog [.tmp 2] Q) (env0 args) H) : AC Tryz.prog 35 args H Q :=
  AC.of (fun _ => []) Tryz.func35 rfl (by kernel_rfl) mixed (by kernel_rfl) (by kernel_rfl) rfl hl h
/-! ### function 45: codewright/code.New -/
def s45 : SC :=
  .seq (.reg [⟨some 2, .box 24 (.tmp 0), none⟩,
    ⟨some 3, .box 62 (.tmp 1), none⟩,
    ⟨some 4, .alloc 27, none⟩,
    ⟨some 5, .assign (.const (.int .i64 0)), none⟩]) (.seq (.reg [⟨some 10, .load 24 (.tmp 2), none⟩,
    ⟨some 11, .load 62 (.tmp 3), none⟩,
    ⟨some 12, .call { callee := .value (.func 94), args := #[.tmp 10, .tmp 11], argTypes := #[24, 62] }, none⟩,
    ⟨some 9, .move (.tmp 12), none⟩,
    ⟨some 13, .extract (.tmp 9) 0, none⟩,
    ⟨some 14, .extract (.tmp 9) 1, none⟩,
    ⟨some 15, .extract (.tmp 9) 2, none⟩,
    ⟨some 6, .alloc 62, none⟩,
    ⟨none, .store 62 (.tmp 6) (.tmp 13), none⟩,
    ⟨some 7, .assign (.tmp 14), none⟩,
    ⟨some 8, .assign (.tmp 15), none⟩]) (.seq (.seq (.reg [⟨some 16, .move (.tmp 8), none⟩,
    ⟨some 17, .binOp .eql 28 (.tmp 16) (.const (.int .i64 0)) 28, none⟩]) (.cond (.tmp 17) (.reg [⟨some 18, .fieldAddr 62 (.tmp 3) 0, none⟩,
    ⟨some 19, .load 3 (.tmp 18), none⟩,
    ⟨some 20, .call { callee := .value (.func 95), args := #[.tmp 19], argTypes := #[3] }, none⟩,
    ⟨some 8, .assign (.tmp 20), none⟩]) .skip)) (.seq (.reg [⟨some 21, .load 24 (.tmp 2), none⟩,
    ⟨some 22, .load 62 (.tmp 6), none⟩,
    ⟨some 23, .move (.tmp 8), none⟩,
    ⟨some 24, .call { callee := .value (.func 96), args := #[.tmp 21, .tmp 22, .tmp 23], argTypes := #[24, 62, 28] }, none⟩,
    ⟨some 25, .extract (.tmp 24) 0, none⟩,
    ⟨some 26, .extract (.tmp 24) 1, none⟩,
    ⟨none, .store 27 (.tmp 4) (.tmp 25), none⟩,
    ⟨some 5, .assign (.tmp 26), none⟩]) .ret)))
theorem at45 {args : List AV} {H : AH} {Q : AV → AH → Prop} (hl : args.length ≤ 27) (h : swp Tryz.prog s45 (fin Tryz.prog [.cell 4 27, .tmp 5] Q) (env0 args) H) : AC Tryz.prog 45 args H Q :=
  AC.of (fun _ => []) Tryz.func45 rfl (by kernel_rfl) mixed (by kernel_rfl) (by kernel_rfl) rfl hl h
/-! ### function 46: codewright/codewrightref09.SameRows -/
def pl46 : Nat → Plan
  | 6 => [(0, []), (1, []), (2, []), (3, []), (4, []), (5, []), (6, []), (7, []), (8, []), (9, [])]
  | _ => []
def s46 : SC :=
  .seq (.reg [⟨some 4, .assign (.const (.bool false)), none⟩]) (.seq (.seq (.reg [⟨some 6, .move (.tmp 0), none⟩,
    ⟨some 7, .call { callee := .builtin .len, args := #[.tmp 6], argTypes := #[25] }, none⟩,
    ⟨some 8, .move (.tmp 1), none⟩,
    ⟨some 9, .call { callee := .builtin .len, args := #[.tmp 8], argTypes := #[25] }, none⟩,
    ⟨some 10, .binOp .neq 3 (.tmp 7) (.tmp 9) 3, none⟩]) (.cond (.tmp 10) (.seq (.reg [⟨some 4, .assign (.const (.bool false)), none⟩]) .ret) .skip)) (.seq (.seq (.reg [⟨some 5, .assign (.const (.int .i64 0)), none⟩]) (.block 0 (.loop (.seq (.seq (.reg [⟨some 11, .move (.tmp 5), none⟩,
    ⟨some 12, .move (.tmp 0), none⟩,
    ⟨some 13, .call { callee := .builtin .len, args := #[.tmp 12], argTypes := #[25] }, none⟩,
    ⟨some 14, .binOp .lss 3 (.tmp 11) (.tmp 13) 3, none⟩]) (.cond (.tmp 14) .skip (.exit 0))) (.seq (.block 1 (.seq (.draw [(0, [], ⟨some 17, .move (.tmp 0), none⟩),
    (1, [], ⟨some 18, .move (.tmp 5), none⟩),
    (2, [], ⟨some 19, .indexAddr 25 (.tmp 17) (.tmp 18), none⟩),
    (3, [], ⟨some 20, .load 22 (.tmp 19), none⟩),
    (4, [], ⟨some 21, .move (.tmp 1), none⟩),
    (5, [], ⟨some 22, .move (.tmp 5), none⟩),
    (6, [], ⟨some 23, .indexAddr 25 (.tmp 21) (.tmp 22), none⟩),
    (7, [], ⟨some 24, .load 22 (.tmp 23), none⟩),
    (8, [], ⟨some 25, .call { callee := .value (.func 32), args := #[.tmp 20, .tmp 24], argTypes := #[22, 22] }, none⟩),
    (9, [], ⟨some 26, .unOp .not 4 (.tmp 25), none⟩)]) (.cond (.tmp 26) (.seq (.reg [⟨some 4, .assign (.const (.bool false)), none⟩]) .ret) .skip))) (.reg [⟨some 15, .move (.tmp 5), none⟩,
    ⟨some 16, .binOp .add 3 (.tmp 15) (.const (.int .i64 1)) 3, none⟩,
    ⟨some 5, .assign (.tmp 16), none⟩])))))) (.seq (.reg [⟨some 4, .assign (.const (.bool true)), none⟩]) .ret)))
theorem at46 {args : List AV} {H : AH} {Q : AV → AH → Prop} (hl : args.length ≤ 27) (h : swp Tryz.prog s46 (fin Tryz.prog [.tmp 4] Q) (env0 args) H) : AC Tryz.prog 46 args H Q :=
  AC.of (pl46) Tryz.func46 rfl (by kernel_rfl) mixed (by kernel_rfl) (by kernel_rfl) rfl hl h
/-! ### function 49: codewright/code.Dual -/
/-! ### function 53: codewright/codewrightref12.List -/
def s53 : SC :=
  .seq (.reg [⟨some 3, .box 24 (.tmp 0), none⟩,
    ⟨some 6, .assign (.const (.int .i64 0)), none⟩]) (.seq (.seq (.reg [⟨some 7, .move (.tmp 1), none⟩,
    ⟨some 8, .call { callee := .builtin .len, args := #[.tmp 7], argTypes := #[22] }, none⟩,
    ⟨some 9, .move (.tmp 2), none⟩,
    ⟨some 10, .binOp .neq 3 (.tmp 8) (.tmp 9) 3, none⟩]) (.cond (.tmp 10) (.seq (.reg [⟨some 6, .assign (.const (.int .i64 4)), none⟩]) .ret) .skip)) (.seq (.reg [⟨some 11, .load 24 (.tmp 3), none⟩,
    ⟨some 12, .move (.tmp 1), none⟩,
    ⟨some 13, .call { callee := .value (.func 99), args := #[.tmp 11, .tmp 12], argTypes := #[24, 22] }, none⟩,
    ⟨some 6, .assign (.tmp 13), none⟩]) .ret))
theorem at53 {args : List AV} {H : AH} {Q : AV → AH → Prop} (hl : args.length ≤ 14) (h : swp Tryz.prog s53 (fin Tryz.prog [.tmp 6] Q) (env0 args) H) : AC Tryz.prog 53 args H Q :=
  AC.of (fun _ => []) Tryz.func53 rfl (by kernel_rfl) mixed (by kernel_rfl) (by kernel_rfl) rfl hl h
/-! ### function 57: codewright/ordering.ordered -/
def s57 : SC :=
  .seq (.reg [⟨some 2, .box 27 (.tmp 0), none⟩,
    ⟨some 4, .assign (.const (.int .i64 0)), none⟩]) (.seq (.seq (.reg [⟨some 9, .load 27 (.tmp 2), none⟩,
    ⟨some 10, .call { callee := .value (.func 63), args := #[.tmp 9], argTypes := #[27] }, none⟩,
    ⟨some 5, .assign (.tmp 10), none⟩]) (.seq (.reg [⟨some 11, .move (.tmp 5), none⟩,
    ⟨some 12, .binOp .neq 28 (.tmp 11) (.const (.int .i64 0)) 28, none⟩]) (.cond (.tmp 12) (.seq (.reg [⟨some 13, .move (.tmp 5), none⟩,
    ⟨some 4, .assign (.tmp 13), none⟩]) .ret) .skip))) (.seq (.seq (.reg [⟨some 14, .move (.tmp 1), none⟩,
    ⟨some 15, .call { callee := .builtin .len, args := #[.tmp 14], argTypes := #[22] }, none⟩,
    ⟨some 16, .fieldAddr 27 (.tmp 2) 1, none⟩,
    ⟨some 17, .load 3 (.tmp 16), none⟩,
    ⟨some 18, .binOp .neq 3 (.tmp 15) (.tmp 17) 3, none⟩]) (.cond (.tmp 18) (.seq (.reg [⟨some 4, .assign (.const (.int .i64 5)), none⟩]) .ret) .skip)) (.seq (.reg [⟨some 19, .fieldAddr 27 (.tmp 2) 1, none⟩,
    ⟨some 20, .load 3 (.tmp 19), none⟩,
    ⟨some 21, .makeSlice 58 (.tmp 20) (.tmp 20), none⟩,
    ⟨some 6, .assign (.tmp 21), none⟩]) (.seq (.seq (.reg [⟨some 22, .move (.tmp 1), none⟩,
    ⟨some 23, .call { callee := .builtin .len, args := #[.tmp 22], argTypes := #[22] }, none⟩,
    ⟨some 24, .move (.const (.int .i64 0)), none⟩]) (.block 0 (.loop (.seq (.reg [⟨some 25, .binOp .lss 3 (.tmp 24) (.tmp 23) 3, none⟩]) (.seq (.cond (.tmp 25) .skip (.exit 0)) (.seq (.block 1 (.seq (.reg [⟨some 26, .indexAddr 22 (.tmp 22) (.tmp 24), none⟩,
    ⟨some 27, .load 3 (.tmp 26), none⟩,
    ⟨some 8, .assign (.tmp 27), none⟩]) (.seq (.seq (.reg [⟨some 28, .move (.tmp 8), none⟩,
    ⟨some 29, .binOp .lss 3 (.tmp 28) (.const (.int .i64 0)) 3, none⟩,
    ⟨some 30, .move (.tmp 29), none⟩,
    ⟨some 31, .move (.tmp 8), some (30, false)⟩,
    ⟨some 32, .fieldAddr 27 (.tmp 2) 1, some (30, false)⟩,
    ⟨some 33, .load 3 (.tmp 32), some (30, false)⟩,
    ⟨some 34, .binOp .geq 3 (.tmp 31) (.tmp 33) 3, some (30, false)⟩,
    ⟨some 35, .pick (.tmp 30) (.const (.bool true)) (.tmp 34), none⟩,
    ⟨some 36, .move (.tmp 35), none⟩,
    ⟨some 37, .move (.tmp 6), some (36, false)⟩,
    ⟨some 38, .move (.tmp 8), some (36, false)⟩,
    ⟨some 39, .indexAddr 58 (.tmp 37) (.tmp 38), some (36, false)⟩,
    ⟨some 40, .load 4 (.tmp 39), some (36, false)⟩,
    ⟨some 41, .pick (.tmp 36) (.const (.bool true)) (.tmp 40), none⟩]) (.cond (.tmp 41) (.seq (.reg [⟨some 4, .assign (.const (.int .i64 5)), none⟩]) .ret) .skip)) (.reg [⟨some 42, .move (.tmp 6), none⟩,
    ⟨some 43, .move (.tmp 8), none⟩,
    ⟨some 44, .indexAddr 58 (.tmp 42) (.tmp 43), none⟩,
    ⟨none, .store 4 (.tmp 44) (.const (.bool true)), none⟩])))) (.reg [⟨some 45, .binOp .add 3 (.tmp 24) (.const (.int .i64 1)) 3, none⟩,
    ⟨some 24, .move (.tmp 45), none⟩]))))))) (.seq (.reg [⟨some 4, .assign (.const (.int .i64 0)), none⟩]) .ret)))))
theorem at57 {args : List AV} {H : AH} {Q : AV → AH → Prop} (hl : args.length ≤ 46) (h : swp Tryz.prog s57 (fin Tryz.prog [.tmp 4] Q) (env0 args) H) : AC Tryz.prog 57 args H Q :=
  AC.of (fun _ => []) Tryz.func57 rfl (by kernel_rfl) mixed (by kernel_rfl) (by kernel_rfl) rfl hl h
/-! ### function 58: codewright/ordering.width -/
/-! ### function 59: codewright/codewrightref48.Order -/
def s59 : SC :=
  .seq (.reg [⟨some 2, .box 27 (.tmp 0), none⟩,
    ⟨some 4, .assign (.const (.int .i64 0)), none⟩]) (.seq (.reg [⟨some 6, .load 27 (.tmp 2), none⟩,
    ⟨some 7, .call { callee := .value (.func 35), args := #[.tmp 6], argTypes := #[27] }, none⟩,
    ⟨some 5, .assign (.tmp 7), none⟩]) (.seq (.seq (.reg [⟨some 8, .move (.tmp 5), none⟩,
    ⟨some 9, .binOp .eql 28 (.tmp 8) (.const (.int .i64 0)) 28, none⟩,
    ⟨some 10, .move (.tmp 9), none⟩,
    ⟨some 11, .fieldAddr 27 (.tmp 2) 1, some (10, true)⟩,
    ⟨some 12, .load 3 (.tmp 11), some (10, true)⟩,
    ⟨some 13, .move (.tmp 1), some (10, true)⟩,
    ⟨some 14, .call { callee := .value (.func 104), args := #[.tmp 12, .tmp 13], argTypes := #[3, 22] }, some (10, true)⟩,
    ⟨some 15, .unOp .not 4 (.tmp 14), some (10, true)⟩,
    ⟨some 16, .pick (.tmp 10) (.tmp 15) (.const (.bool false)), none⟩]) (.cond (.tmp 16) (.reg [⟨some 5, .assign (.const (.int .i64 5)), none⟩]) .skip)) (.seq (.reg [⟨some 17, .move (.tmp 5), none⟩,
    ⟨some 4, .assign (.tmp 17), none⟩]) .ret)))
theorem at59 {args : List AV} {H : AH} {Q : AV → AH → Prop} (hl : args.length ≤ 18) (h : swp Tryz.prog s59 (fin Tryz.prog [.tmp 4] Q) (env0 args) H) : AC Tryz.prog 59 args H Q :=
  AC.of (fun _ => []) Tryz.func59 rfl (by kernel_rfl) mixed (by kernel_rfl) (by kernel_rfl) rfl hl h
/-! ### function 60: codewright/codewrightref48.Of -/
/-! ### function 61: codewright/ordering.Dimension -/
def s61 : SC :=
  .seq (.reg [⟨some 2, .box 27 (.tmp 0), none⟩,
    ⟨some 4, .assign (.const (.int .i64 0)), none⟩,
    ⟨some 5, .assign (.const (.int .i64 0)), none⟩]) (.seq (.seq (.reg [⟨some 10, .load 27 (.tmp 2), none⟩,
    ⟨some 11, .call { callee := .value (.func 63), args := #[.tmp 10], argTypes := #[27] }, none⟩,
    ⟨some 6, .assign (.tmp 11), none⟩]) (.seq (.reg [⟨some 12, .move (.tmp 6), none⟩,
    ⟨some 13, .binOp .neq 28 (.tmp 12) (.const (.int .i64 0)) 28, none⟩]) (.cond (.tmp 13) (.seq (.reg [⟨some 14, .move (.tmp 6), none⟩,
    ⟨some 4, .assign (.const (.int .i64 0)), none⟩,
    ⟨some 5, .assign (.tmp 14), none⟩]) .ret) .skip))) (.seq (.reg [⟨some 7, .assign (.const (.int .u64 0)), none⟩]) (.seq (.seq (.reg [⟨some 15, .move (.tmp 1), none⟩,
    ⟨some 16, .call { callee := .builtin .len, args := #[.tmp 15], argTypes := #[22] }, none⟩,
    ⟨some 17, .move (.const (.int .i64 0)), none⟩]) (.block 0 (.loop (.seq (.reg [⟨some 18, .binOp .lss 3 (.tmp 17) (.tmp 16) 3, none⟩]) (.seq (.cond (.tmp 18) .skip (.exit 0)) (.seq (.block 1 (.seq (.reg [⟨some 19, .move (.tmp 17), none⟩,
    ⟨some 20, .indexAddr 22 (.tmp 15) (.tmp 17), none⟩,
    ⟨some 21, .load 3 (.tmp 20), none⟩,
    ⟨some 8, .assign (.tmp 19), none⟩,
    ⟨some 9, .assign (.tmp 21), none⟩]) (.seq (.seq (.reg [⟨some 22, .move (.tmp 9), none⟩,
    ⟨some 23, .binOp .lss 3 (.tmp 22) (.const (.int .i64 0)) 3, none⟩,
    ⟨some 24, .move (.tmp 23), none⟩,
    ⟨some 25, .move (.tmp 9), some (24, false)⟩,
    ⟨some 26, .fieldAddr 27 (.tmp 2) 1, some (24, false)⟩,
    ⟨some 27, .load 3 (.tmp 26), some (24, false)⟩,
    ⟨some 28, .binOp .geq 3 (.tmp 25) (.tmp 27) 3, some (24, false)⟩,
    ⟨some 29, .pick (.tmp 24) (.const (.bool true)) (.tmp 28), none⟩,
    ⟨some 30, .move (.tmp 29), none⟩,
    ⟨some 31, .move (.tmp 8), some (30, false)⟩,
    ⟨some 32, .binOp .gtr 3 (.tmp 31) (.const (.int .i64 0)) 3, some (30, false)⟩,
    ⟨some 33, .move (.tmp 32), some (30, false)⟩,
    ⟨some 34, .move (.tmp 9), some (33, true)⟩,
    ⟨some 35, .move (.tmp 1), some (33, true)⟩,
    ⟨some 36, .move (.tmp 8), some (33, true)⟩,
    ⟨some 37, .binOp .sub 3 (.tmp 36) (.const (.int .i64 1)) 3, some (33, true)⟩,
    ⟨some 38, .indexAddr 22 (.tmp 35) (.tmp 37), some (33, true)⟩,
    ⟨some 39, .load 3 (.tmp 38), some (33, true)⟩,
    ⟨some 40, .binOp .leq 3 (.tmp 34) (.tmp 39) 3, some (33, true)⟩,
    ⟨some 41, .pick (.tmp 33) (.tmp 40) (.const (.bool false)), some (30, false)⟩,
    ⟨some 42, .pick (.tmp 30) (.const (.bool true)) (.tmp 41), none⟩]) (.cond (.tmp 42) (.seq (.reg [⟨some 4, .assign (.const (.int .i64 0)), none⟩,
    ⟨some 5, .assign (.const (.int .i64 5)), none⟩]) .ret) .skip)) (.reg [⟨some 43, .move (.tmp 7), none⟩,
    ⟨some 44, .move (.tmp 9), none⟩,
    ⟨some 45, .binOp .shl 116 (.const (.int .u64 1)) (.tmp 44) 3, none⟩,
    ⟨some 46, .binOp .or 116 (.tmp 43) (.tmp 45) 116, none⟩,
    ⟨some 7, .assign (.tmp 46), none⟩])))) (.reg [⟨some 47, .binOp .add 3 (.tmp 17) (.const (.int .i64 1)) 3, none⟩,
    ⟨some 17, .move (.tmp 47), none⟩]))))))) (.seq (.reg [⟨some 48, .load 27 (.tmp 2), none⟩,
    ⟨some 49, .move (.tmp 7), none⟩,
    ⟨some 50, .call { callee := .value (.func 103), args := #[.tmp 48, .tmp 49], argTypes := #[27, 116] }, none⟩,
    ⟨some 4, .assign (.tmp 50), none⟩,
    ⟨some 5, .assign (.const (.int .i64 0)), none⟩]) .ret))))
theorem at61 {args : List AV} {H : AH} {Q : AV → AH → Prop} (hl : args.length ≤ 51) (h : swp Tryz.prog s61 (fin Tryz.prog [.tmp 4, .tmp 5] Q) (env0 args) H) : AC Tryz.prog 61 args H Q :=
  AC.of (fun _ => []) Tryz.func61 rfl (by kernel_rfl) mixed (by kernel_rfl) (by kernel_rfl) rfl hl h
/-! ### function 62: codewright/modify.Permute -/
def s62 : SC :=
  .seq (.reg [⟨some 2, .box 27 (.tmp 0), none⟩,
    ⟨some 4, .alloc 27, none⟩,
    ⟨some 5, .assign (.const (.int .i64 0)), none⟩]) (.seq (.seq (.reg [⟨some 14, .load 27 (.tmp 2), none⟩,
    ⟨some 15, .call { callee := .value (.func 63), args := #[.tmp 14], argTypes := #[27] }, none⟩,
    ⟨some 6, .assign (.tmp 15), none⟩]) (.seq (.reg [⟨some 16, .move (.tmp 6), none⟩,
    ⟨some 17, .binOp .neq 28 (.tmp 16) (.const (.int .i64 0)) 28, none⟩]) (.cond (.tmp 17) (.seq (.reg [⟨some 18, .build 27 #[], none⟩,
    ⟨some 19, .move (.tmp 6), none⟩,
    ⟨none, .store 27 (.tmp 4) (.tmp 18), none⟩,
    ⟨some 5, .assign (.tmp 19), none⟩]) .ret) .skip))) (.seq (.seq (.reg [⟨some 20, .move (.tmp 1), none⟩,
    ⟨some 21, .call { callee := .value (.func 79), args := #[.tmp 20], argTypes := #[22] }, none⟩,
    ⟨some 22, .call { callee := .value (.func 78), args := #[.tmp 21], argTypes := #[97] }, none⟩,
    ⟨some 7, .assign (.tmp 22), none⟩]) (.seq (.reg [⟨some 23, .move (.tmp 1), none⟩,
    ⟨some 24, .call { callee := .builtin .len, args := #[.tmp 23], argTypes := #[22] }, none⟩,
    ⟨some 25, .fieldAddr 27 (.tmp 2) 1, none⟩,
    ⟨some 26, .load 3 (.tmp 25), none⟩,
    ⟨some 27, .binOp .neq 3 (.tmp 24) (.tmp 26) 3, none⟩,
    ⟨some 28, .move (.tmp 27), none⟩,
    ⟨some 29, .move (.tmp 7), some (28, false)⟩,
    ⟨some 30, .fieldAddr 27 (.tmp 2) 1, some (28, false)⟩,
    ⟨some 31, .load 3 (.tmp 30), some (28, false)⟩,
    ⟨some 32, .call { callee := .value (.func 107), args := #[.tmp 29, .tmp 31], argTypes := #[22, 3] }, some (28, false)⟩,
    ⟨some 33, .unOp .not 4 (.tmp 32), some (28, false)⟩,
    ⟨some 34, .pick (.tmp 28) (.const (.bool true)) (.tmp 33), none⟩]) (.cond (.tmp 34) (.seq (.reg [⟨some 35, .build 27 #[], none⟩,
    ⟨none, .store 27 (.tmp 4) (.tmp 35), none⟩,
    ⟨some 5, .assign (.const (.int .i64 6)), none⟩]) .ret) .skip))) (.seq (.reg [⟨some 36, .fieldAddr 27 (.tmp 2) 1, none⟩,
    ⟨some 37, .load 3 (.tmp 36), none⟩,
    ⟨some 38, .build 62 #[(0, .tmp 37)], none⟩,
    ⟨some 8, .alloc 62, none⟩,
    ⟨none, .store 62 (.tmp 8) (.tmp 38), none⟩]) (.seq (.seq (.reg [⟨some 39, .fieldAddr 27 (.tmp 2) 2, none⟩,
    ⟨some 40, .load 25 (.tmp 39), none⟩,
    ⟨some 41, .call { callee := .builtin .len, args := #[.tmp 40], argTypes := #[25] }, none⟩,
    ⟨some 42, .move (.const (.int .i64 0)), none⟩]) (.block 0 (.loop (.seq (.reg [⟨some 43, .binOp .lss 3 (.tmp 42) (.tmp 41) 3, none⟩]) (.seq (.cond (.tmp 43) .skip (.exit 0)) (.seq (.block 1 (.seq (.reg [⟨some 44, .indexAddr 25 (.tmp 40) (.tmp 42), none⟩,
    ⟨some 45, .load 22 (.tmp 44), none⟩,
    ⟨some 10, .assign (.tmp 45), none⟩]) (.seq (.reg [⟨some 46, .fieldAddr 27 (.tmp 2) 1, none⟩,
    ⟨some 47, .load 3 (.tmp 46), none⟩,
    ⟨some 48, .makeSlice 22 (.tmp 47) (.tmp 47), none⟩,
    ⟨some 11, .assign (.tmp 48), none⟩]) (.seq (.seq (.reg [⟨some 49, .move (.tmp 1), none⟩,
    ⟨some 50, .call { callee := .builtin .len, args := #[.tmp 49], argTypes := #[22] }, none⟩,
    ⟨some 51, .move (.const (.int .i64 0)), none⟩]) (.block 2 (.loop (.seq (.reg [⟨some 52, .binOp .lss 3 (.tmp 51) (.tmp 50) 3, none⟩]) (.seq (.cond (.tmp 52) .skip (.exit 2)) (.seq (.block 3 (.seq (.reg [⟨some 53, .move (.tmp 51), none⟩,
    ⟨some 54, .indexAddr 22 (.tmp 49) (.tmp 51), none⟩,
    ⟨some 55, .load 3 (.tmp 54), none⟩,
    ⟨some 12, .assign (.tmp 53), none⟩,
    ⟨some 13, .assign (.tmp 55), none⟩]) (.reg [⟨some 56, .move (.tmp 11), none⟩,
    ⟨some 57, .move (.tmp 13), none⟩,
    ⟨some 58, .move (.tmp 10), none⟩,
    ⟨some 59, .move (.tmp 12), none⟩,
    ⟨some 60, .indexAddr 22 (.tmp 58) (.tmp 59), none⟩,
    ⟨some 61, .load 3 (.tmp 60), none⟩,
    ⟨some 62, .indexAddr 22 (.tmp 56) (.tmp 57), none⟩,
    ⟨none, .store 3 (.tmp 62) (.tmp 61), none⟩]))) (.reg [⟨some 63, .binOp .add 3 (.tmp 51) (.const (.int .i64 1)) 3, none⟩,
    ⟨some 51, .move (.tmp 63), none⟩]))))))) (.reg [⟨some 64, .fieldAddr 62 (.tmp 8) 1, none⟩,
    ⟨some 65, .load 25 (.tmp 64), none⟩,
    ⟨some 66, .move (.tmp 11), none⟩,
    ⟨some 67, .buildSlice 25 1 #[(0, .tmp 66)], none⟩,
    ⟨some 68, .call { callee := .builtin .append, args := #[.tmp 65, .tmp 67], argTypes := #[25, 25] }, none⟩,
    ⟨some 69, .fieldAddr 62 (.tmp 8) 1, none⟩,
    ⟨none, .store 25 (.tmp 69) (.tmp 68), none⟩]))))) (.reg [⟨some 70, .binOp .add 3 (.tmp 42) (.const (.int .i64 1)) 3, none⟩,
    ⟨some 42, .move (.tmp 70), none⟩]))))))) (.seq (.reg [⟨some 71, .fieldAddr 27 (.tmp 2) 0, none⟩,
    ⟨some 72, .load 24 (.tmp 71), none⟩,
    ⟨some 73, .load 62 (.tmp 8), none⟩,
    ⟨some 74, .call { callee := .value (.func 45), args := #[.tmp 72, .tmp 73], argTypes := #[24, 62] }, none⟩,
    ⟨some 75, .extract (.tmp 74) 0, none⟩,
    ⟨some 76, .extract (.tmp 74) 1, none⟩,
    ⟨none, .store 27 (.tmp 4) (.tmp 75), none⟩,
    ⟨some 5, .assign (.tmp 76), none⟩]) .ret)))))
theorem at62 {args : List AV} {H : AH} {Q : AV → AH → Prop} (hl : args.length ≤ 77) (h : swp Tryz.prog s62 (fin Tryz.prog [.cell 4 27, .tmp 5] Q) (env0 args) H) : AC Tryz.prog 62 args H Q :=
  AC.of (fun _ => []) Tryz.func62 rfl (by kernel_rfl) mixed (by kernel_rfl) (by kernel_rfl) rfl hl h
/-! ### function 63: codewright/code.Check -/
def pl63 : Nat → Plan
  | 6 => [(0, []), (1, []), (2, []), (3, [1]), (4, []), (5, [])]
  | _ => []
def s63 : SC :=
  .seq (.reg [⟨some 1, .box 27 (.tmp 0), none⟩,
    ⟨some 2, .assign (.const (.int .i64 0)), none⟩]) (.seq (.seq (.reg [⟨some 4, .fieldAddr 27 (.tmp 1) 0, none⟩,
    ⟨some 5, .load 24 (.tmp 4), none⟩,
    ⟨some 6, .call { callee := .value (.func 108), args := #[.tmp 5], argTypes := #[24] }, none⟩,
    ⟨some 7, .binOp .neq 28 (.tmp 6) (.const (.int .i64 0)) 28, none⟩]) (.cond (.tmp 7) (.seq (.reg [⟨some 2, .assign (.const (.int .i64 1)), none⟩]) .ret) .skip)) (.seq (.seq (.reg [⟨some 8, .fieldAddr 27 (.tmp 1) 1, none⟩,
    ⟨some 9, .load 3 (.tmp 8), none⟩,
    ⟨some 10, .call { callee := .value (.func 95), args := #[.tmp 9], argTypes := #[3] }, none⟩,
    ⟨some 3, .assign (.tmp 10), none⟩]) (.seq (.reg [⟨some 11, .move (.tmp 3), none⟩,
    ⟨some 12, .binOp .neq 28 (.tmp 11) (.const (.int .i64 0)) 28, none⟩]) (.cond (.tmp 12) (.seq (.reg [⟨some 13, .move (.tmp 3), none⟩,
    ⟨some 2, .assign (.tmp 13), none⟩]) .ret) .skip))) (.seq (.draw [(0, [], ⟨some 14, .fieldAddr 27 (.tmp 1) 0, none⟩),
    (1, [], ⟨some 15, .load 24 (.tmp 14), none⟩),
    (2, [], ⟨some 16, .load 27 (.tmp 1), none⟩),
    (3, [1], ⟨some 17, .call { callee := .value (.func 70), args := #[.tmp 16], argTypes := #[27] }, none⟩),
    (4, [], ⟨some 18, .call { callee := .value (.func 109), args := #[.tmp 15, .tmp 17], argTypes := #[24, 62] }, none⟩),
    (5, [], ⟨some 2, .assign (.tmp 18), none⟩)]) .ret)))
theorem at63 {args : List AV} {H : AH} {Q : AV → AH → Prop} (hl : args.length ≤ 19) (h : swp Tryz.prog s63 (fin Tryz.prog [.tmp 2] Q) (env0 args) H) : AC Tryz.prog 63 args H Q :=
  AC.of (pl63) Tryz.func63 rfl (by kernel_rfl) mixed (by kernel_rfl) (by kernel_rfl) rfl hl h
/-! ### function 64: codewright/trellis.ranks -/
/-! ### function 65: codewright/codewrightref12.Make -/
def s65 : SC :=
  .seq (.reg [⟨some 3, .box 24 (.tmp 0), none⟩,
    ⟨some 6, .alloc 27, none⟩]) (.seq (.reg [⟨some 10, .load 24 (.tmp 3), none⟩,
    ⟨some 11, .move (.tmp 1), none⟩,
    ⟨some 12, .move (.tmp 2), none⟩,
    ⟨some 13, .call { callee := .value (.func 111), args := #[.tmp 10, .tmp 11, .tmp 12], argTypes := #[24, 25, 3] }, none⟩,
    ⟨some 9, .move (.tmp 13), none⟩,
    ⟨some 14, .extract (.tmp 9) 0, none⟩,
    ⟨some 15, .extract (.tmp 9) 1, none⟩,
    ⟨some 7, .assign (.tmp 14), none⟩,
    ⟨some 8, .assign (.tmp 15), none⟩]) (.seq (.reg [⟨some 16, .load 24 (.tmp 3), none⟩,
    ⟨some 17, .call { callee := .value (.func 112), args := #[.tmp 16], argTypes := #[24] }, none⟩,
    ⟨some 18, .move (.tmp 2), none⟩,
    ⟨some 19, .move (.tmp 7), none⟩,
    ⟨some 20, .build 27 #[(0, .tmp 17), (1, .tmp 18), (2, .tmp 19)], none⟩,
    ⟨none, .store 27 (.tmp 6) (.tmp 20), none⟩]) .ret))
theorem at65 {args : List AV} {H : AH} {Q : AV → AH → Prop} (hl : args.length ≤ 21) (h : swp Tryz.prog s65 (fin Tryz.prog [.cell 6 27] Q) (env0 args) H) : AC Tryz.prog 65 args H Q :=
  AC.of (fun _ => []) Tryz.func65 rfl (by kernel_rfl) mixed (by kernel_rfl) (by kernel_rfl) rfl hl h
/-! ### function 66: codewright/codewrightref04.Same -/
def pl66 : Nat → Plan
  | 6 => [(0, []), (1, []), (2, []), (3, []), (4, []), (5, []), (6, []), (7, []), (8, []), (9, []), (10, [])]
  | _ => []
def s66 : SC :=
  .seq (.reg [⟨some 2, .box 24 (.tmp 0), none⟩,
    ⟨some 3, .box 24 (.tmp 1), none⟩,
    ⟨some 4, .assign (.const (.bool false)), none⟩]) (.seq (.seq (.reg [⟨some 6, .fieldAddr 24 (.tmp 2) 0, none⟩,
    ⟨some 7, .load 3 (.tmp 6), none⟩,
    ⟨some 8, .fieldAddr 24 (.tmp 3) 0, none⟩,
    ⟨some 9, .load 3 (.tmp 8), none⟩,
    ⟨some 10, .binOp .neq 3 (.tmp 7) (.tmp 9) 3, none⟩,
    ⟨some 11, .move (.tmp 10), none⟩,
    ⟨some 12, .fieldAddr 24 (.tmp 2) 1, some (11, false)⟩,
    ⟨some 13, .load 3 (.tmp 12), some (11, false)⟩,
    ⟨some 14, .fieldAddr 24 (.tmp 3) 1, some (11, false)⟩,
    ⟨some 15, .load 3 (.tmp 14), some (11, false)⟩,
    ⟨some 16, .binOp .neq 3 (.tmp 13) (.tmp 15) 3, some (11, false)⟩,
    ⟨some 17, .pick (.tmp 11) (.const (.bool true)) (.tmp 16), none⟩,
    ⟨some 18, .move (.tmp 17), none⟩,
    ⟨some 19, .fieldAddr 24 (.tmp 2) 2, some (18, false)⟩,
    ⟨some 20, .load 22 (.tmp 19), some (18, false)⟩,
    ⟨some 21, .call { callee := .builtin .len, args := #[.tmp 20], argTypes := #[22] }, some (18, false)⟩,
    ⟨some 22, .fieldAddr 24 (.tmp 3) 2, some (18, false)⟩,
    ⟨some 23, .load 22 (.tmp 22), some (18, false)⟩,
    ⟨some 24, .call { callee := .builtin .len, args := #[.tmp 23], argTypes := #[22] }, some (18, false)⟩,
    ⟨some 25, .binOp .neq 3 (.tmp 21) (.tmp 24) 3, some (18, false)⟩,
    ⟨some 26, .pick (.tmp 18) (.const (.bool true)) (.tmp 25), none⟩]) (.cond (.tmp 26) (.seq (.reg [⟨some 4, .assign (.const (.bool false)), none⟩]) .ret) .skip)) (.seq (.seq (.reg [⟨some 5, .assign (.const (.int .i64 0)), none⟩]) (.block 0 (.loop (.seq (.seq (.reg [⟨some 27, .move (.tmp 5), none⟩,
    ⟨some 28, .fieldAddr 24 (.tmp 2) 2, none⟩,
    ⟨some 29, .load 22 (.tmp 28), none⟩,
    ⟨some 30, .call { callee := .builtin .len, args := #[.tmp 29], argTypes := #[22] }, none⟩,
    ⟨some 31, .binOp .lss 3 (.tmp 27) (.tmp 30) 3, none⟩]) (.cond (.tmp 31) .skip (.exit 0))) (.seq (.block 1 (.seq (.draw [(0, [], ⟨some 34, .fieldAddr 24 (.tmp 2) 2, none⟩),
    (1, [], ⟨some 35, .load 22 (.tmp 34), none⟩),
    (2, [], ⟨some 36, .move (.tmp 5), none⟩),
    (3, [], ⟨some 37, .indexAddr 22 (.tmp 35) (.tmp 36), none⟩),
    (4, [], ⟨some 38, .load 3 (.tmp 37), none⟩),
    (5, [], ⟨some 39, .fieldAddr 24 (.tmp 3) 2, none⟩),
    (6, [], ⟨some 40, .load 22 (.tmp 39), none⟩),
    (7, [], ⟨some 41, .move (.tmp 5), none⟩),
    (8, [], ⟨some 42, .indexAddr 22 (.tmp 40) (.tmp 41), none⟩),
    (9, [], ⟨some 43, .load 3 (.tmp 42), none⟩),
    (10, [], ⟨some 44, .binOp .neq 3 (.tmp 38) (.tmp 43) 3, none⟩)]) (.cond (.tmp 44) (.seq (.reg [⟨some 4, .assign (.const (.bool false)), none⟩]) .ret) .skip))) (.reg [⟨some 32, .move (.tmp 5), none⟩,
    ⟨some 33, .binOp .add 3 (.tmp 32) (.const (.int .i64 1)) 3, none⟩,
    ⟨some 5, .assign (.tmp 33), none⟩])))))) (.seq (.reg [⟨some 4, .assign (.const (.bool true)), none⟩]) .ret)))
theorem at66 {args : List AV} {H : AH} {Q : AV → AH → Prop} (hl : args.length ≤ 45) (h : swp Tryz.prog s66 (fin Tryz.prog [.tmp 4] Q) (env0 args) H) : AC Tryz.prog 66 args H Q :=
  AC.of (pl66) Tryz.func66 rfl (by kernel_rfl) mixed (by kernel_rfl) (by kernel_rfl) rfl hl h
/-! ### function 67: codewright/codewrightref09.Combine -/
def pl67 : Nat → Plan
  | 6 => [(0, []), (1, []), (2, []), (3, []), (4, []), (5, []), (6, []), (7, []), (8, []), (9, []), (10, []), (11, [])]
  | _ => []
def s67 : SC :=
  .seq (.reg [⟨some 4, .box 24 (.tmp 0), none⟩,
    ⟨some 8, .assign (.const (.slice none 0 0)), none⟩]) (.seq (.reg [⟨some 11, .move (.tmp 3), none⟩,
    ⟨some 12, .makeSlice 22 (.tmp 11) (.tmp 11), none⟩,
    ⟨some 9, .assign (.tmp 12), none⟩]) (.seq (.seq (.reg [⟨some 10, .assign (.const (.int .i64 0)), none⟩]) (.block 0 (.loop (.seq (.seq (.reg [⟨some 13, .move (.tmp 10), none⟩,
    ⟨some 14, .move (.tmp 2), none⟩,
    ⟨some 15, .call { callee := .builtin .len, args := #[.tmp 14], argTypes := #[25] }, none⟩,
    ⟨some 16, .binOp .lss 3 (.tmp 13) (.tmp 15) 3, none⟩,
    ⟨some 17, .move (.tmp 16), none⟩,
    ⟨some 18, .move (.tmp 10), some (17, true)⟩,
    ⟨some 19, .move (.tmp 1), some (17, true)⟩,
    ⟨some 20, .call { callee := .builtin .len, args := #[.tmp 19], argTypes := #[22] }, some (17, true)⟩,
    ⟨some 21, .binOp .lss 3 (.tmp 18) (.tmp 20) 3, some (17, true)⟩,
    ⟨some 22, .pick (.tmp 17) (.tmp 21) (.const (.bool false)), none⟩]) (.cond (.tmp 22) .skip (.exit 0))) (.seq (.block 1 (.seq (.reg [⟨some 25, .move (.tmp 1), none⟩,
    ⟨some 26, .move (.tmp 10), none⟩,
    ⟨some 27, .indexAddr 22 (.tmp 25) (.tmp 26), none⟩,
    ⟨some 28, .load 3 (.tmp 27), none⟩,
    ⟨some 29, .binOp .neq 3 (.tmp 28) (.const (.int .i64 0)) 3, none⟩]) (.cond (.tmp 29) (.draw [(0, [], ⟨some 30, .load 24 (.tmp 4), none⟩),
    (1, [], ⟨some 31, .move (.tmp 9), none⟩),
    (2, [], ⟨some 32, .move (.tmp 1), none⟩),
    (3, [], ⟨some 33, .move (.tmp 10), none⟩),
    (4, [], ⟨some 34, .indexAddr 22 (.tmp 32) (.tmp 33), none⟩),
    (5, [], ⟨some 35, .load 3 (.tmp 34), none⟩),
    (6, [], ⟨some 36, .move (.tmp 2), none⟩),
    (7, [], ⟨some 37, .move (.tmp 10), none⟩),
    (8, [], ⟨some 38, .indexAddr 25 (.tmp 36) (.tmp 37), none⟩),
    (9, [], ⟨some 39, .load 22 (.tmp 38), none⟩),
    (10, [], ⟨some 40, .call { callee := .value (.func 113), args := #[.tmp 30, .tmp 31, .tmp 35, .tmp 39], argTypes := #[24, 22, 3, 22] }, none⟩),
    (11, [], ⟨some 9, .assign (.tmp 40), none⟩)]) .skip))) (.reg [⟨some 23, .move (.tmp 10), none⟩,
    ⟨some 24, .binOp .add 3 (.tmp 23) (.const (.int .i64 1)) 3, none⟩,
    ⟨some 10, .assign (.tmp 24), none⟩])))))) (.seq (.reg [⟨some 41, .move (.tmp 9), none⟩,
    ⟨some 8, .assign (.tmp 41), none⟩]) .ret)))
theorem at67 {args : List AV} {H : AH} {Q : AV → AH → Prop} (hl : args.length ≤ 42) (h : swp Tryz.prog s67 (fin Tryz.prog [.tmp 8] Q) (env0 args) H) : AC Tryz.prog 67 args H Q :=
  AC.of (pl67) Tryz.func67 rfl (by kernel_rfl) mixed (by kernel_rfl) (by kernel_rfl) rfl hl h
/-! ### function 68: codewright/code.word -/
def s68 : SC :=
  .seq (.reg [⟨some 2, .box 27 (.tmp 0), none⟩,
    ⟨some 4, .assign (.const (.int .i64 0)), none⟩]) (.seq (.seq (.reg [⟨some 6, .load 27 (.tmp 2), none⟩,
    ⟨some 7, .call { callee := .value (.func 63), args := #[.tmp 6], argTypes := #[27] }, none⟩,
    ⟨some 5, .assign (.tmp 7), none⟩]) (.seq (.reg [⟨some 8, .move (.tmp 5), none⟩,
    ⟨some 9, .binOp .neq 28 (.tmp 8) (.const (.int .i64 0)) 28, none⟩]) (.cond (.tmp 9) (.seq (.reg [⟨some 10, .move (.tmp 5), none⟩,
    ⟨some 4, .assign (.tmp 10), none⟩]) .ret) .skip))) (.seq (.reg [⟨some 11, .fieldAddr 27 (.tmp 2) 0, none⟩,
    ⟨some 12, .load 24 (.tmp 11), none⟩,
    ⟨some 13, .move (.tmp 1), none⟩,
    ⟨some 14, .fieldAddr 27 (.tmp 2) 1, none⟩,
    ⟨some 15, .load 3 (.tmp 14), none⟩,
    ⟨some 16, .call { callee := .value (.func 98), args := #[.tmp 12, .tmp 13, .tmp 15], argTypes := #[24, 22, 3] }, none⟩,
    ⟨some 4, .assign (.tmp 16), none⟩]) .ret))
theorem at68 {args : List AV} {H : AH} {Q : AV → AH → Prop} (hl : args.length ≤ 17) (h : swp Tryz.prog s68 (fin Tryz.prog [.tmp 4] Q) (env0 args) H) : AC Tryz.prog 68 args H Q :=
  AC.of (fun _ => []) Tryz.func68 rfl (by kernel_rfl) mixed (by kernel_rfl) (by kernel_rfl) rfl hl h
/-! ### function 69: codewright/space.Has -/
def s69 : SC :=
  .seq (.reg [⟨some 3, .box 24 (.tmp 0), none⟩,
    ⟨some 4, .box 62 (.tmp 1), none⟩,
    ⟨some 6, .assign (.const (.bool false)), none⟩,
    ⟨some 7, .assign (.const (.int .i64 0)), none⟩]) (.seq (.reg [⟨some 11, .load 24 (.tmp 3), none⟩,
    ⟨some 12, .load 62 (.tmp 4), none⟩,
    ⟨some 13, .call { callee := .value (.func 114), args := #[.tmp 11, .tmp 12], argTypes := #[24, 62] }, none⟩,
    ⟨some 10, .move (.tmp 13), none⟩,
    ⟨some 14, .extract (.tmp 10) 0, none⟩,
    ⟨some 15, .extract (.tmp 10) 1, none⟩,
    ⟨some 8, .alloc 126, none⟩,
    ⟨none, .store 126 (.tmp 8) (.tmp 14), none⟩,
    ⟨some 9, .assign (.tmp 15), none⟩]) (.seq (.seq (.reg [⟨some 16, .move (.tmp 9), none⟩,
    ⟨some 17, .binOp .eql 28 (.tmp 16) (.const (.int .i64 0)) 28, none⟩]) (.cond (.tmp 17) (.reg [⟨some 18, .load 126 (.tmp 8), none⟩,
    ⟨some 19, .move (.tmp 2), none⟩,
    ⟨some 20, .call { callee := .value (.func 115), args := #[.tmp 18, .tmp 19], argTypes := #[126, 22] }, none⟩,
    ⟨some 9, .assign (.tmp 20), none⟩]) .skip)) (.seq (.reg [⟨some 21, .move (.tmp 9), none⟩,
    ⟨some 22, .binOp .eql 28 (.tmp 21) (.const (.int .i64 0)) 28, none⟩,
    ⟨some 23, .move (.tmp 22), none⟩,
    ⟨some 24, .load 126 (.tmp 8), some (23, true)⟩,
    ⟨some 25, .move (.tmp 2), some (23, true)⟩,
    ⟨some 26, .call { callee := .value (.func 116), args := #[.tmp 24, .tmp 25], argTypes := #[126, 22] }, some (23, true)⟩,
    ⟨some 27, .pick (.tmp 23) (.tmp 26) (.const (.bool false)), none⟩,
    ⟨some 28, .move (.tmp 9), none⟩,
    ⟨some 6, .assign (.tmp 27), none⟩,
    ⟨some 7, .assign (.tmp 28), none⟩]) .ret)))
theorem at69 {args : List AV} {H : AH} {Q : AV → AH → Prop} (hl : args.length ≤ 29) (h : swp Tryz.prog s69 (fin Tryz.prog [.tmp 6, .tmp 7] Q) (env0 args) H) : AC Tryz.prog 69 args H Q :=
  AC.of (fun _ => []) Tryz.func69 rfl (by kernel_rfl) mixed (by kernel_rfl) (by kernel_rfl) rfl hl h
/-! ### function 70: codewright/code.gen -/
def s70 : SC :=
  .seq (.reg [⟨some 1, .box 27 (.tmp 0), none⟩,
    ⟨some 2, .alloc 62, none⟩]) (.seq (.reg [⟨some 3, .fieldAddr 27 (.tmp 1) 1, none⟩,
    ⟨some 4, .load 3 (.tmp 3), none⟩,
    ⟨some 5, .fieldAddr 27 (.tmp 1) 2, none⟩,
    ⟨some 6, .load 25 (.tmp 5), none⟩,
    ⟨some 7, .build 62 #[(0, .tmp 4), (1, .tmp 6)], none⟩,
    ⟨none, .store 62 (.tmp 2) (.tmp 7), none⟩]) .ret)
theorem at70 {args : List AV} {H : AH} {Q : AV → AH → Prop} (hl : args.length ≤ 8) (h : swp Tryz.prog s70 (fin Tryz.prog [.cell 2 62] Q) (env0 args) H) : AC Tryz.prog 70 args H Q :=
  AC.of (fun _ => []) Tryz.func70 rfl (by kernel_rfl) mixed (by kernel_rfl) (by kernel_rfl) rfl hl h
/-! ### function 72: codewright/infoset.open -/
def s72 : SC :=
  .seq (.reg [⟨some 1, .box 27 (.tmp 0), none⟩,
    ⟨some 2, .assign (.const (.pointer none)), none⟩,
    ⟨some 3, .assign (.const (.int .i64 0)), none⟩]) (.seq (.seq (.reg [⟨some 5, .load 27 (.tmp 1), none⟩,
    ⟨some 6, .call { callee := .value (.func 63), args := #[.tmp 5], argTypes := #[27] }, none⟩,
    ⟨some 4, .assign (.tmp 6), none⟩]) (.seq (.reg [⟨some 7, .move (.tmp 4), none⟩,
    ⟨some 8, .binOp .neq 28 (.tmp 7) (.const (.int .i64 0)) 28, none⟩]) (.cond (.tmp 8) (.seq (.reg [⟨some 9, .move (.tmp 4), none⟩,
    ⟨some 2, .assign (.const (.pointer none)), none⟩,
    ⟨some 3, .assign (.tmp 9), none⟩]) .ret) .skip))) (.seq (.reg [⟨some 10, .fieldAddr 27 (.tmp 1) 0, none⟩,
    ⟨some 11, .load 24 (.tmp 10), none⟩,
    ⟨some 12, .call { callee := .value (.func 118), args := #[.tmp 11], argTypes := #[24] }, none⟩,
    ⟨some 13, .extract (.tmp 12) 0, none⟩,
    ⟨some 14, .extract (.tmp 12) 1, none⟩,
    ⟨some 2, .assign (.tmp 13), none⟩,
    ⟨some 3, .assign (.tmp 14), none⟩]) .ret))
theorem at72 {args : List AV} {H : AH} {Q : AV → AH → Prop} (hl : args.length ≤ 15) (h : swp Tryz.prog s72 (fin Tryz.prog [.tmp 2, .tmp 3] Q) (env0 args) H) : AC Tryz.prog 72 args H Q :=
  AC.of (fun _ => []) Tryz.func72 rfl (by kernel_rfl) mixed (by kernel_rfl) (by kernel_rfl) rfl hl h
/-! ### function 73: codewright/infoset.sets -/
def s73 : SC :=
  .seq (.reg [⟨some 2, .box 27 (.tmp 0), none⟩,
    ⟨some 4, .assign (.const (.int .i64 0)), none⟩]) (.seq (.seq (.reg [⟨some 9, .move (.tmp 1), none⟩,
    ⟨some 10, .call { callee := .builtin .len, args := #[.tmp 9], argTypes := #[25] }, none⟩,
    ⟨some 11, .move (.const (.int .i64 0)), none⟩]) (.block 0 (.loop (.seq (.reg [⟨some 12, .binOp .lss 3 (.tmp 11) (.tmp 10) 3, none⟩]) (.seq (.cond (.tmp 12) .skip (.exit 0)) (.seq (.block 1 (.seq (.reg [⟨some 13, .indexAddr 25 (.tmp 9) (.tmp 11), none⟩,
    ⟨some 14, .load 22 (.tmp 13), none⟩,
    ⟨some 6, .assign (.tmp 14), none⟩]) (.seq (.reg [⟨some 15, .move (.tmp 6), none⟩,
    ⟨some 16, .call { callee := .builtin .len, args := #[.tmp 15], argTypes := #[22] }, none⟩,
    ⟨some 17, .move (.const (.int .i64 0)), none⟩]) (.block 2 (.loop (.seq (.reg [⟨some 18, .binOp .lss 3 (.tmp 17) (.tmp 16) 3, none⟩]) (.seq (.cond (.tmp 18) .skip (.exit 2)) (.seq (.block 3 (.seq (.reg [⟨some 19, .move (.tmp 17), none⟩,
    ⟨some 20, .indexAddr 22 (.tmp 15) (.tmp 17), none⟩,
    ⟨some 21, .load 3 (.tmp 20), none⟩,
    ⟨some 7, .assign (.tmp 19), none⟩,
    ⟨some 8, .assign (.tmp 21), none⟩]) (.seq (.reg [⟨some 22, .move (.tmp 8), none⟩,
    ⟨some 23, .binOp .lss 3 (.tmp 22) (.const (.int .i64 0)) 3, none⟩,
    ⟨some 24, .move (.tmp 23), none⟩,
    ⟨some 25, .move (.tmp 8), some (24, false)⟩,
    ⟨some 26, .fieldAddr 27 (.tmp 2) 1, some (24, false)⟩,
    ⟨some 27, .load 3 (.tmp 26), some (24, false)⟩,
    ⟨some 28, .binOp .geq 3 (.tmp 25) (.tmp 27) 3, some (24, false)⟩,
    ⟨some 29, .pick (.tmp 24) (.const (.bool true)) (.tmp 28), none⟩,
    ⟨some 30, .move (.tmp 29), none⟩,
    ⟨some 31, .move (.tmp 7), some (30, false)⟩,
    ⟨some 32, .binOp .gtr 3 (.tmp 31) (.const (.int .i64 0)) 3, some (30, false)⟩,
    ⟨some 33, .move (.tmp 32), some (30, false)⟩,
    ⟨some 34, .move (.tmp 8), some (33, true)⟩,
    ⟨some 35, .move (.tmp 6), some (33, true)⟩,
    ⟨some 36, .move (.tmp 7), some (33, true)⟩,
    ⟨some 37, .binOp .sub 3 (.tmp 36) (.const (.int .i64 1)) 3, some (33, true)⟩,
    ⟨some 38, .indexAddr 22 (.tmp 35) (.tmp 37), some (33, true)⟩,
    ⟨some 39, .load 3 (.tmp 38), some (33, true)⟩,
    ⟨some 40, .binOp .leq 3 (.tmp 34) (.tmp 39) 3, some (33, true)⟩,
    ⟨some 41, .pick (.tmp 33) (.tmp 40) (.const (.bool false)), some (30, false)⟩,
    ⟨some 42, .pick (.tmp 30) (.const (.bool true)) (.tmp 41), none⟩]) (.cond (.tmp 42) (.seq (.reg [⟨some 4, .assign (.const (.int .i64 6)), none⟩]) .ret) .skip)))) (.reg [⟨some 43, .binOp .add 3 (.tmp 17) (.const (.int .i64 1)) 3, none⟩,
    ⟨some 17, .move (.tmp 43), none⟩]))))))))) (.reg [⟨some 44, .binOp .add 3 (.tmp 11) (.const (.int .i64 1)) 3, none⟩,
    ⟨some 11, .move (.tmp 44), none⟩]))))))) (.seq (.reg [⟨some 4, .assign (.const (.int .i64 0)), none⟩]) .ret))
theorem at73 {args : List AV} {H : AH} {Q : AV → AH → Prop} (hl : args.length ≤ 45) (h : swp Tryz.prog s73 (fin Tryz.prog [.tmp 4] Q) (env0 args) H) : AC Tryz.prog 73 args H Q :=
  AC.of (fun _ => []) Tryz.func73 rfl (by kernel_rfl) mixed (by kernel_rfl) (by kernel_rfl) rfl hl h
/-! ### function 74: codewright/infoset.greedy -/
def s74 : SC :=
  .seq (.reg [⟨some 4, .box 27 (.tmp 1), none⟩,
    ⟨some 6, .assign (.const (.slice none 0 0)), none⟩]) (.seq (.reg [⟨some 11, .move (.tmp 0), none⟩,
    ⟨some 12, .build 135 #[(0, .tmp 11)], none⟩,
    ⟨some 13, .box 135 (.tmp 12), none⟩,
    ⟨some 7, .assign (.tmp 13), none⟩]) (.seq (.reg [⟨some 8, .assign (.const (.slice none 0 0)), none⟩]) (.seq (.seq (.reg [⟨some 14, .move (.tmp 2), none⟩,
    ⟨some 15, .call { callee := .builtin .len, args := #[.tmp 14], argTypes := #[22] }, none⟩,
    ⟨some 16, .move (.const (.int .i64 0)), none⟩]) (.block 0 (.loop (.seq (.reg [⟨some 17, .binOp .lss 3 (.tmp 16) (.tmp 15) 3, none⟩]) (.seq (.cond (.tmp 17) .skip (.exit 0)) (.seq (.block 1 (.seq (.reg [⟨some 18, .indexAddr 22 (.tmp 14) (.tmp 16), none⟩,
    ⟨some 19, .load 3 (.tmp 18), none⟩,
    ⟨some 10, .assign (.tmp 19), none⟩]) (.seq (.reg [⟨some 20, .move (.tmp 7), none⟩,
    ⟨some 21, .load 27 (.tmp 4), none⟩,
    ⟨some 22, .move (.tmp 10), none⟩,
    ⟨some 23, .call { callee := .value (.func 120), args := #[.tmp 21, .tmp 22], argTypes := #[27, 3] }, none⟩,
    ⟨some 24, .call { callee := .value (.func 119), args := #[.tmp 20, .tmp 23], argTypes := #[133, 22] }, none⟩]) (.cond (.tmp 24) (.reg [⟨some 25, .move (.tmp 8), none⟩,
    ⟨some 26, .move (.tmp 10), none⟩,
    ⟨some 27, .buildSlice 22 1 #[(0, .tmp 26)], none⟩,
    ⟨some 28, .call { callee := .builtin .append, args := #[.tmp 25, .tmp 27], argTypes := #[22, 22] }, none⟩,
    ⟨some 8, .assign (.tmp 28), none⟩]) .skip)))) (.reg [⟨some 29, .binOp .add 3 (.tmp 16) (.const (.int .i64 1)) 3, none⟩,
    ⟨some 16, .move (.tmp 29), none⟩]))))))) (.seq (.reg [⟨some 30, .move (.tmp 8), none⟩,
    ⟨some 6, .assign (.tmp 30), none⟩]) .ret))))
theorem at74 {args : List AV} {H : AH} {Q : AV → AH → Prop} (hl : args.length ≤ 31) (h : swp Tryz.prog s74 (fin Tryz.prog [.tmp 6] Q) (env0 args) H) : AC Tryz.prog 74 args H Q :=
  AC.of (fun _ => []) Tryz.func74 rfl (by kernel_rfl) mixed (by kernel_rfl) (by kernel_rfl) rfl hl h
/-! ### function 78: slices.Sorted[int] -/
def s78 : SC :=
  .seq (.reg [⟨some 2, .assign (.const (.slice none 0 0)), none⟩]) (.seq (.reg [⟨some 4, .move (.tmp 0), none⟩,
    ⟨some 5, .call { callee := .value (.func 121), args := #[.tmp 4], argTypes := #[97] }, none⟩,
    ⟨some 3, .assign (.tmp 5), none⟩]) (.seq (.reg [⟨some 6, .move (.tmp 3), none⟩,
    ⟨some 7, .call { callee := .value (.func 80), args := #[.tmp 6], argTypes := #[22] }, none⟩]) (.seq (.reg [⟨some 8, .move (.tmp 3), none⟩,
    ⟨some 2, .assign (.tmp 8), none⟩]) .ret)))
theorem at78 {args : List AV} {H : AH} {Q : AV → AH → Prop} (hl : args.length ≤ 9) (h : swp Tryz.prog s78 (fin Tryz.prog [.tmp 2] Q) (env0 args) H) : AC Tryz.prog 78 args H Q :=
  AC.of (fun _ => []) Tryz.func78 rfl (by kernel_rfl) mixed (by kernel_rfl) (by kernel_rfl) rfl hl h
/-! ### function 79: slices.Values[[]int,int] -/
def s79 : SC :=
  .seq (.reg [⟨some 1, .box 22 (.tmp 0), none⟩,
    ⟨some 2, .assign (.const .nilFunc), none⟩]) (.seq (.reg [⟨some 3, .makeFunc (.func 122) #[] #[.tmp 1], none⟩,
    ⟨some 2, .assign (.tmp 3), none⟩]) .ret)
theorem at79 {args : List AV} {H : AH} {Q : AV → AH → Prop} (hl : args.length ≤ 4) (h : swp Tryz.prog s79 (fin Tryz.prog [.tmp 2] Q) (env0 args) H) : AC Tryz.prog 79 args H Q :=
  AC.of (fun _ => []) Tryz.func79 rfl (by kernel_rfl) mixed (by kernel_rfl) (by kernel_rfl) rfl hl h
/-! ### function 83: slices.Index[[]int,int] -/
/-! ### function 84: slices.Contains[[]int,int] -/
/-! ### function 85: slices.Clone[[]int,int] -/
def s85 : SC :=
  .seq (.reg [⟨some 2, .assign (.const (.slice none 0 0)), none⟩]) (.seq (.seq (.reg [⟨some 3, .move (.tmp 0), none⟩,
    ⟨some 4, .binOp .eql 22 (.tmp 3) (.const (.slice none 0 0)) 22, none⟩]) (.cond (.tmp 4) (.seq (.reg [⟨some 2, .assign (.const (.slice none 0 0)), none⟩]) .ret) .skip)) (.seq (.reg [⟨some 5, .buildSlice 22 0 #[], none⟩,
    ⟨some 6, .move (.tmp 0), none⟩,
    ⟨some 7, .call { callee := .builtin .append, args := #[.tmp 5, .tmp 6], argTypes := #[22, 22] }, none⟩,
    ⟨some 2, .assign (.tmp 7), none⟩]) .ret))
theorem at85 {args : List AV} {H : AH} {Q : AV → AH → Prop} (hl : args.length ≤ 8) (h : swp Tryz.prog s85 (fin Tryz.prog [.tmp 2] Q) (env0 args) H) : AC Tryz.prog 85 args H Q :=
  AC.of (fun _ => []) Tryz.func85 rfl (by kernel_rfl) mixed (by kernel_rfl) (by kernel_rfl) rfl hl h
end Go.Proofs.YtbkpebmcagdgmaaGreat.AM
/-! Stripped texts of functions, printed by gen.py out of the loaded program; Lean checks each against it. -/
namespace Go.Proofs.YtbkpebmcagdgmaaGreat.AM
open Go Go.RowKit
set_option linter.unusedVariables false
set_option linter.defProp false
/-! ### function 87: codewright/codewrightref04.Check -/
def pl87 : Nat → Plan
  | 12 => [(0, []), (1, []), (2, []), (3, []), (4, []), (5, []), (6, []), (7, []), (8, []), (9, []), (10, []), (11, []), (12, []), (13, []), (14, []), (15, [])]
  | _ => []
def s87 : SC :=
  .seq (.reg [⟨some 1, .box 24 (.tmp 0), none⟩,
    ⟨some 2, .assign (.const (.int .i64 0)), none⟩]) (.seq (.seq (.reg [⟨some 4, .load 24 (.tmp 1), none⟩,
    ⟨some 5, .call { callee := .value (.func 125), args := #[.tmp 4], argTypes := #[24] }, none⟩,
    ⟨some 6, .binOp .eql 3 (.tmp 5) (.const (.int .i64 0)) 3, none⟩,
    ⟨some 7, .move (.tmp 6), none⟩,
    ⟨some 8, .fieldAddr 24 (.tmp 1) 0, some (7, false)⟩,
    ⟨some 9, .load 3 (.tmp 8), some (7, false)⟩,
    ⟨some 10, .call { callee := .value (.func 126), args := #[.tmp 9], argTypes := #[3] }, some (7, false)⟩,
    ⟨some 11, .unOp .not 4 (.tmp 10), some (7, false)⟩,
    ⟨some 12, .pick (.tmp 7) (.const (.bool true)) (.tmp 11), none⟩]) (.cond (.tmp 12) (.seq (.reg [⟨some 2, .assign (.const (.int .i64 1)), none⟩]) .ret) .skip)) (.seq (.seq (.reg [⟨some 13, .fieldAddr 24 (.tmp 1) 1, none⟩,
    ⟨some 14, .load 3 (.tmp 13), none⟩,
    ⟨some 15, .binOp .eql 3 (.tmp 14) (.const (.int .i64 1)) 3, none⟩]) (.cond (.tmp 15) (.seq (.seq (.reg [⟨some 16, .fieldAddr 24 (.tmp 1) 2, none⟩,
    ⟨some 17, .load 22 (.tmp 16), none⟩,
    ⟨some 18, .call { callee := .builtin .len, args := #[.tmp 17], argTypes := #[22] }, none⟩,
    ⟨some 19, .binOp .neq 3 (.tmp 18) (.const (.int .i64 0)) 3, none⟩]) (.cond (.tmp 19) (.seq (.reg [⟨some 2, .assign (.const (.int .i64 1)), none⟩]) .ret) .skip)) (.seq (.reg [⟨some 2, .assign (.const (.int .i64 0)), none⟩]) .ret)) .skip)) (.seq (.seq (.reg [⟨some 20, .fieldAddr 24 (.tmp 1) 2, none⟩,
    ⟨some 21, .load 22 (.tmp 20), none⟩,
    ⟨some 22, .call { callee := .builtin .len, args := #[.tmp 21], argTypes := #[22] }, none⟩,
    ⟨some 23, .fieldAddr 24 (.tmp 1) 1, none⟩,
    ⟨some 24, .load 3 (.tmp 23), none⟩,
    ⟨some 25, .binOp .neq 3 (.tmp 22) (.tmp 24) 3, none⟩]) (.cond (.tmp 25) (.seq (.reg [⟨some 2, .assign (.const (.int .i64 1)), none⟩]) .ret) .skip)) (.seq (.seq (.reg [⟨some 3, .assign (.const (.int .i64 0)), none⟩]) (.block 0 (.loop (.seq (.seq (.reg [⟨some 26, .move (.tmp 3), none⟩,
    ⟨some 27, .fieldAddr 24 (.tmp 1) 1, none⟩,
    ⟨some 28, .load 3 (.tmp 27), none⟩,
    ⟨some 29, .binOp .lss 3 (.tmp 26) (.tmp 28) 3, none⟩]) (.cond (.tmp 29) .skip (.exit 0))) (.seq (.block 1 (.seq (.draw [(0, [], ⟨some 32, .fieldAddr 24 (.tmp 1) 2, none⟩),
    (1, [], ⟨some 33, .load 22 (.tmp 32), none⟩),
    (2, [], ⟨some 34, .move (.tmp 3), none⟩),
    (3, [], ⟨some 35, .indexAddr 22 (.tmp 33) (.tmp 34), none⟩),
    (4, [], ⟨some 36, .load 3 (.tmp 35), none⟩),
    (5, [], ⟨some 37, .binOp .lss 3 (.tmp 36) (.const (.int .i64 0)) 3, none⟩),
    (6, [], ⟨some 38, .move (.tmp 37), none⟩),
    (7, [], ⟨some 39, .fieldAddr 24 (.tmp 1) 2, some (38, false)⟩),
    (8, [], ⟨some 40, .load 22 (.tmp 39), some (38, false)⟩),
    (9, [], ⟨some 41, .move (.tmp 3), some (38, false)⟩),
    (10, [], ⟨some 42, .indexAddr 22 (.tmp 40) (.tmp 41), some (38, false)⟩),
    (11, [], ⟨some 43, .load 3 (.tmp 42), some (38, false)⟩),
    (12, [], ⟨some 44, .fieldAddr 24 (.tmp 1) 0, some (38, false)⟩),
    (13, [], ⟨some 45, .load 3 (.tmp 44), some (38, false)⟩),
    (14, [], ⟨some 46, .binOp .geq 3 (.tmp 43) (.tmp 45) 3, some (38, false)⟩),
    (15, [], ⟨some 47, .pick (.tmp 38) (.const (.bool true)) (.tmp 46), none⟩)]) (.cond (.tmp 47) (.seq (.reg [⟨some 2, .assign (.const (.int .i64 1)), none⟩]) .ret) .skip))) (.reg [⟨some 30, .move (.tmp 3), none⟩,
    ⟨some 31, .binOp .add 3 (.tmp 30) (.const (.int .i64 1)) 3, none⟩,
    ⟨some 3, .assign (.tmp 31), none⟩])))))) (.seq (.seq (.reg [⟨some 48, .fieldAddr 24 (.tmp 1) 2, none⟩,
    ⟨some 49, .load 22 (.tmp 48), none⟩,
    ⟨some 50, .fieldAddr 24 (.tmp 1) 0, none⟩,
    ⟨some 51, .load 3 (.tmp 50), none⟩,
    ⟨some 52, .call { callee := .value (.func 127), args := #[.tmp 49, .tmp 51], argTypes := #[22, 3] }, none⟩,
    ⟨some 53, .unOp .not 4 (.tmp 52), none⟩]) (.cond (.tmp 53) (.seq (.reg [⟨some 2, .assign (.const (.int .i64 1)), none⟩]) .ret) .skip)) (.seq (.reg [⟨some 2, .assign (.const (.int .i64 0)), none⟩]) .ret))))))
theorem at87 {args : List AV} {H : AH} {Q : AV → AH → Prop} (hl : args.length ≤ 54) (h : swp Tryz.prog s87 (fin Tryz.prog [.tmp 2] Q) (env0 args) H) : AC Tryz.prog 87 args H Q :=
  AC.of (pl87) Tryz.func87 rfl (by kernel_rfl) mixed (by kernel_rfl) (by kernel_rfl) rfl hl h
/-! ### function 88: codewright/codewrightref10.Check -/
def s88 : SC :=
  .seq (.reg [⟨some 2, .box 24 (.tmp 0), none⟩,
    ⟨some 3, .box 62 (.tmp 1), none⟩,
    ⟨some 4, .assign (.const (.int .i64 0)), none⟩]) (.seq (.reg [⟨some 8, .load 24 (.tmp 2), none⟩,
    ⟨some 9, .load 62 (.tmp 3), none⟩,
    ⟨some 10, .call { callee := .value (.func 128), args := #[.tmp 8, .tmp 9], argTypes := #[24, 62] }, none⟩,
    ⟨some 5, .assign (.tmp 10), none⟩]) (.seq (.seq (.reg [⟨some 11, .move (.tmp 5), none⟩,
    ⟨some 12, .binOp .neq 28 (.tmp 11) (.const (.int .i64 0)) 28, none⟩]) (.cond (.tmp 12) (.seq (.reg [⟨some 13, .move (.tmp 5), none⟩,
    ⟨some 4, .assign (.tmp 13), none⟩]) .ret) .skip)) (.seq (.reg [⟨some 15, .load 24 (.tmp 2), none⟩,
    ⟨some 16, .fieldAddr 62 (.tmp 3) 1, none⟩,
    ⟨some 17, .load 25 (.tmp 16), none⟩,
    ⟨some 18, .fieldAddr 62 (.tmp 3) 0, none⟩,
    ⟨some 19, .load 3 (.tmp 18), none⟩,
    ⟨some 20, .call { callee := .value (.func 111), args := #[.tmp 15, .tmp 17, .tmp 19], argTypes := #[24, 25, 3] }, none⟩,
    ⟨some 14, .move (.tmp 20), none⟩,
    ⟨some 21, .extract (.tmp 14) 0, none⟩,
    ⟨some 22, .extract (.tmp 14) 1, none⟩,
    ⟨some 6, .assign (.tmp 21), none⟩,
    ⟨some 7, .assign (.tmp 22), none⟩]) (.seq (.seq (.reg [⟨some 23, .move (.tmp 6), none⟩,
    ⟨some 24, .fieldAddr 62 (.tmp 3) 1, none⟩,
    ⟨some 25, .load 25 (.tmp 24), none⟩,
    ⟨some 26, .call { callee := .value (.func 46), args := #[.tmp 23, .tmp 25], argTypes := #[25, 25] }, none⟩,
    ⟨some 27, .unOp .not 4 (.tmp 26), none⟩]) (.cond (.tmp 27) (.seq (.reg [⟨some 4, .assign (.const (.int .i64 5)), none⟩]) .ret) .skip)) (.seq (.reg [⟨some 4, .assign (.const (.int .i64 0)), none⟩]) .ret)))))
theorem at88 {args : List AV} {H : AH} {Q : AV → AH → Prop} (hl : args.length ≤ 28) (h : swp Tryz.prog s88 (fin Tryz.prog [.tmp 4] Q) (env0 args) H) : AC Tryz.prog 88 args H Q :=
  AC.of (fun _ => []) Tryz.func88 rfl (by kernel_rfl) mixed (by kernel_rfl) (by kernel_rfl) rfl hl h
/-! ### function 94: codewright/matrix.Canonical -/
def s94 : SC :=
  .seq (.reg [⟨some 2, .box 24 (.tmp 0), none⟩,
    ⟨some 3, .box 62 (.tmp 1), none⟩,
    ⟨some 4, .alloc 62, none⟩,
    ⟨some 5, .assign (.const (.slice none 0 0)), none⟩,
    ⟨some 6, .assign (.const (.int .i64 0)), none⟩]) (.seq (.reg [⟨some 12, .load 24 (.tmp 2), none⟩,
    ⟨some 13, .load 62 (.tmp 3), none⟩,
    ⟨some 14, .buildSlice 153 1 #[(0, .tmp 13)], none⟩,
    ⟨some 15, .call { callee := .value (.func 100), args := #[.tmp 12, .tmp 14], argTypes := #[24, 153] }, none⟩,
    ⟨some 11, .move (.tmp 15), none⟩,
    ⟨some 16, .extract (.tmp 11) 0, none⟩,
    ⟨some 17, .extract (.tmp 11) 1, none⟩,
    ⟨some 7, .assign (.tmp 16), none⟩,
    ⟨some 8, .assign (.tmp 17), none⟩]) (.seq (.seq (.reg [⟨some 18, .move (.tmp 8), none⟩,
    ⟨some 19, .binOp .neq 28 (.tmp 18) (.const (.int .i64 0)) 28, none⟩]) (.cond (.tmp 19) (.seq (.reg [⟨some 20, .build 62 #[], none⟩,
    ⟨some 21, .move (.tmp 8), none⟩,
    ⟨none, .store 62 (.tmp 4) (.tmp 20), none⟩,
    ⟨some 5, .assign (.const (.slice none 0 0)), none⟩,
    ⟨some 6, .assign (.tmp 21), none⟩]) .ret) .skip)) (.seq (.reg [⟨some 23, .move (.tmp 7), none⟩,
    ⟨some 24, .fieldAddr 62 (.tmp 3) 1, none⟩,
    ⟨some 25, .load 25 (.tmp 24), none⟩,
    ⟨some 26, .fieldAddr 62 (.tmp 3) 0, none⟩,
    ⟨some 27, .load 3 (.tmp 26), none⟩,
    ⟨some 28, .call { callee := .value (.func 136), args := #[.tmp 23, .tmp 25, .tmp 27], argTypes := #[89, 25, 3] }, none⟩,
    ⟨some 22, .move (.tmp 28), none⟩,
    ⟨some 29, .extract (.tmp 22) 0, none⟩,
    ⟨some 30, .extract (.tmp 22) 1, none⟩,
    ⟨some 9, .assign (.tmp 29), none⟩,
    ⟨some 10, .assign (.tmp 30), none⟩]) (.seq (.reg [⟨some 31, .fieldAddr 62 (.tmp 3) 0, none⟩,
    ⟨some 32, .load 3 (.tmp 31), none⟩,
    ⟨some 33, .move (.tmp 9), none⟩,
    ⟨some 34, .build 62 #[(0, .tmp 32), (1, .tmp 33)], none⟩,
    ⟨some 35, .move (.tmp 10), none⟩,
    ⟨none, .store 62 (.tmp 4) (.tmp 34), none⟩,
    ⟨some 5, .assign (.tmp 35), none⟩,
    ⟨some 6, .assign (.const (.int .i64 0)), none⟩]) .ret))))
theorem at94 {args : List AV} {H : AH} {Q : AV → AH → Prop} (hl : args.length ≤ 36) (h : swp Tryz.prog s94 (fin Tryz.prog [.cell 4 62, .tmp 5, .tmp 6] Q) (env0 args) H) : AC Tryz.prog 94 args H Q :=
  AC.of (fun _ => []) Tryz.func94 rfl (by kernel_rfl) mixed (by kernel_rfl) (by kernel_rfl) rfl hl h
/-! ### function 95: codewright/code.length -/
def s95 : SC :=
  .seq (.reg [⟨some 2, .assign (.const (.int .i64 0)), none⟩]) (.seq (.seq (.reg [⟨some 3, .move (.tmp 0), none⟩,
    ⟨some 4, .binOp .lss 3 (.tmp 3) (.const (.int .i64 1)) 3, none⟩,
    ⟨some 5, .move (.tmp 4), none⟩,
    ⟨some 6, .move (.tmp 0), some (5, false)⟩,
    ⟨some 7, .binOp .gtr 3 (.tmp 6) (.const (.int .i64 64)) 3, some (5, false)⟩,
    ⟨some 8, .pick (.tmp 5) (.const (.bool true)) (.tmp 7), none⟩]) (.cond (.tmp 8) (.seq (.reg [⟨some 2, .assign (.const (.int .i64 4)), none⟩]) .ret) .skip)) (.seq (.reg [⟨some 2, .assign (.const (.int .i64 0)), none⟩]) .ret))
theorem at95 {args : List AV} {H : AH} {Q : AV → AH → Prop} (hl : args.length ≤ 9) (h : swp Tryz.prog s95 (fin Tryz.prog [.tmp 2] Q) (env0 args) H) : AC Tryz.prog 95 args H Q :=
  AC.of (fun _ => []) Tryz.func95 rfl (by kernel_rfl) mixed (by kernel_rfl) (by kernel_rfl) rfl hl h
/-! ### function 96: codewright/code.of -/
def pl96 : Nat → Plan
  | 3 => [(0, []), (2, []), (3, []), (4, []), (5, []), (1, [3, 5]), (6, []), (7, []), (8, [])]
  | _ => []
def s96 : SC :=
  .seq (.reg [⟨some 3, .box 24 (.tmp 0), none⟩,
    ⟨some 4, .box 62 (.tmp 1), none⟩,
    ⟨some 6, .alloc 27, none⟩,
    ⟨some 7, .assign (.const (.int .i64 0)), none⟩]) (.seq (.seq (.reg [⟨some 8, .move (.tmp 2), none⟩,
    ⟨some 9, .binOp .neq 28 (.tmp 8) (.const (.int .i64 0)) 28, none⟩]) (.cond (.tmp 9) (.seq (.reg [⟨some 10, .build 27 #[], none⟩,
    ⟨some 11, .move (.tmp 2), none⟩,
    ⟨none, .store 27 (.tmp 6) (.tmp 10), none⟩,
    ⟨some 7, .assign (.tmp 11), none⟩]) .ret) .skip)) (.seq (.draw [(0, [], ⟨some 12, .load 24 (.tmp 3), none⟩),
    (2, [], ⟨some 14, .fieldAddr 62 (.tmp 4) 0, none⟩),
    (3, [], ⟨some 15, .load 3 (.tmp 14), none⟩),
    (4, [], ⟨some 16, .fieldAddr 62 (.tmp 4) 1, none⟩),
    (5, [], ⟨some 17, .load 25 (.tmp 16), none⟩),
    (1, [3, 5], ⟨some 13, .call { callee := .value (.func 137), args := #[.tmp 12], argTypes := #[24] }, none⟩),
    (6, [], ⟨some 18, .build 27 #[(0, .tmp 13), (1, .tmp 15), (2, .tmp 17)], none⟩),
    (7, [], ⟨none, .store 27 (.tmp 6) (.tmp 18), none⟩),
    (8, [], ⟨some 7, .assign (.const (.int .i64 0)), none⟩)]) .ret))
theorem at96 {args : List AV} {H : AH} {Q : AV → AH → Prop} (hl : args.length ≤ 19) (h : swp Tryz.prog s96 (fin Tryz.prog [.cell 6 27, .tmp 7] Q) (env0 args) H) : AC Tryz.prog 96 args H Q :=
  AC.of (pl96) Tryz.func96 rfl (by kernel_rfl) mixed (by kernel_rfl) (by kernel_rfl) rfl hl h
/-! ### function 97: codewright/matrix.Kernel -/
/-! ### function 98: codewright/code.list -/
def s98 : SC :=
  .seq (.reg [⟨some 3, .box 24 (.tmp 0), none⟩,
    ⟨some 6, .assign (.const (.int .i64 0)), none⟩]) (.seq (.seq (.reg [⟨some 9, .move (.tmp 1), none⟩,
    ⟨some 10, .call { callee := .builtin .len, args := #[.tmp 9], argTypes := #[22] }, none⟩,
    ⟨some 11, .move (.tmp 2), none⟩,
    ⟨some 12, .binOp .neq 3 (.tmp 10) (.tmp 11) 3, none⟩]) (.cond (.tmp 12) (.seq (.reg [⟨some 6, .assign (.const (.int .i64 4)), none⟩]) .ret) .skip)) (.seq (.reg [⟨some 14, .load 24 (.tmp 3), none⟩,
    ⟨some 15, .call { callee := .value (.func 118), args := #[.tmp 14], argTypes := #[24] }, none⟩,
    ⟨some 13, .move (.tmp 15), none⟩,
    ⟨some 16, .extract (.tmp 13) 0, none⟩,
    ⟨some 17, .extract (.tmp 13) 1, none⟩,
    ⟨some 7, .alloc 89, none⟩,
    ⟨none, .store 89 (.tmp 7) (.tmp 16), none⟩,
    ⟨some 8, .assign (.tmp 17), none⟩]) (.seq (.seq (.reg [⟨some 18, .move (.tmp 8), none⟩,
    ⟨some 19, .binOp .neq 28 (.tmp 18) (.const (.int .i64 0)) 28, none⟩]) (.cond (.tmp 19) (.seq (.reg [⟨some 20, .move (.tmp 8), none⟩,
    ⟨some 6, .assign (.tmp 20), none⟩]) .ret) .skip)) (.seq (.seq (.reg [⟨some 21, .move (.tmp 1), none⟩,
    ⟨some 22, .makeFunc (.func 140) #[] #[.tmp 7], none⟩,
    ⟨some 23, .call { callee := .value (.func 139), args := #[.tmp 21, .tmp 22], argTypes := #[22, 137] }, none⟩]) (.cond (.tmp 23) (.seq (.reg [⟨some 6, .assign (.const (.int .i64 2)), none⟩]) .ret) .skip)) (.seq (.reg [⟨some 6, .assign (.const (.int .i64 0)), none⟩]) .ret)))))
theorem at98 {args : List AV} {H : AH} {Q : AV → AH → Prop} (hl : args.length ≤ 24) (h : swp Tryz.prog s98 (fin Tryz.prog [.tmp 6] Q) (env0 args) H) : AC Tryz.prog 98 args H Q :=
  AC.of (fun _ => []) Tryz.func98 rfl (by kernel_rfl) mixed (by kernel_rfl) (by kernel_rfl) rfl hl h
/-! ### function 99: codewright/codewrightref09.Entries -/
def pl99 : Nat → Plan
  | 4 => [(0, []), (1, []), (2, []), (3, []), (4, []), (5, []), (6, [])]
  | _ => []
def s99 : SC :=
  .seq (.reg [⟨some 2, .box 24 (.tmp 0), none⟩,
    ⟨some 4, .assign (.const (.int .i64 0)), none⟩]) (.seq (.seq (.reg [⟨some 5, .assign (.const (.int .i64 0)), none⟩]) (.block 0 (.loop (.seq (.seq (.reg [⟨some 6, .move (.tmp 5), none⟩,
    ⟨some 7, .move (.tmp 1), none⟩,
    ⟨some 8, .call { callee := .builtin .len, args := #[.tmp 7], argTypes := #[22] }, none⟩,
    ⟨some 9, .binOp .lss 3 (.tmp 6) (.tmp 8) 3, none⟩]) (.cond (.tmp 9) .skip (.exit 0))) (.seq (.block 1 (.seq (.draw [(0, [], ⟨some 12, .load 24 (.tmp 2), none⟩),
    (1, [], ⟨some 13, .move (.tmp 1), none⟩),
    (2, [], ⟨some 14, .move (.tmp 5), none⟩),
    (3, [], ⟨some 15, .indexAddr 22 (.tmp 13) (.tmp 14), none⟩),
    (4, [], ⟨some 16, .load 3 (.tmp 15), none⟩),
    (5, [], ⟨some 17, .call { callee := .value (.func 142), args := #[.tmp 12, .tmp 16], argTypes := #[24, 3] }, none⟩),
    (6, [], ⟨some 18, .unOp .not 4 (.tmp 17), none⟩)]) (.cond (.tmp 18) (.seq (.reg [⟨some 4, .assign (.const (.int .i64 2)), none⟩]) .ret) .skip))) (.reg [⟨some 10, .move (.tmp 5), none⟩,
    ⟨some 11, .binOp .add 3 (.tmp 10) (.const (.int .i64 1)) 3, none⟩,
    ⟨some 5, .assign (.tmp 11), none⟩])))))) (.seq (.reg [⟨some 4, .assign (.const (.int .i64 0)), none⟩]) .ret))
theorem at99 {args : List AV} {H : AH} {Q : AV → AH → Prop} (hl : args.length ≤ 19) (h : swp Tryz.prog s99 (fin Tryz.prog [.tmp 4] Q) (env0 args) H) : AC Tryz.prog 99 args H Q :=
  AC.of (pl99) Tryz.func99 rfl (by kernel_rfl) mixed (by kernel_rfl) (by kernel_rfl) rfl hl h
/-! ### function 100: codewright/matrix.open -/
def s100 : SC :=
  .seq (.reg [⟨some 2, .box 24 (.tmp 0), none⟩,
    ⟨some 4, .assign (.const (.pointer none)), none⟩,
    ⟨some 5, .assign (.const (.int .i64 0)), none⟩]) (.seq (.reg [⟨some 12, .load 24 (.tmp 2), none⟩,
    ⟨some 13, .call { callee := .value (.func 118), args := #[.tmp 12], argTypes := #[24] }, none⟩,
    ⟨some 11, .move (.tmp 13), none⟩,
    ⟨some 14, .extract (.tmp 11) 0, none⟩,
    ⟨some 15, .extract (.tmp 11) 1, none⟩,
    ⟨some 6, .assign (.tmp 14), none⟩,
    ⟨some 7, .assign (.tmp 15), none⟩]) (.seq (.seq (.reg [⟨some 16, .move (.tmp 7), none⟩,
    ⟨some 17, .binOp .neq 28 (.tmp 16) (.const (.int .i64 0)) 28, none⟩]) (.cond (.tmp 17) (.seq (.reg [⟨some 4, .assign (.const (.pointer none)), none⟩,
    ⟨some 5, .assign (.const (.int .i64 1)), none⟩]) .ret) .skip)) (.seq (.seq (.reg [⟨some 18, .move (.tmp 1), none⟩,
    ⟨some 19, .call { callee := .builtin .len, args := #[.tmp 18], argTypes := #[153] }, none⟩,
    ⟨some 20, .move (.const (.int .i64 0)), none⟩]) (.block 0 (.loop (.seq (.reg [⟨some 21, .binOp .lss 3 (.tmp 20) (.tmp 19) 3, none⟩]) (.seq (.cond (.tmp 21) .skip (.exit 0)) (.seq (.block 1 (.seq (.reg [⟨some 22, .indexAddr 153 (.tmp 18) (.tmp 20), none⟩,
    ⟨some 23, .load 62 (.tmp 22), none⟩,
    ⟨some 9, .alloc 62, none⟩,
    ⟨none, .store 62 (.tmp 9) (.tmp 23), none⟩]) (.seq (.reg [⟨some 24, .move (.tmp 6), none⟩,
    ⟨some 25, .load 62 (.tmp 9), none⟩,
    ⟨some 26, .call { callee := .value (.func 143), args := #[.tmp 24, .tmp 25], argTypes := #[89, 62] }, none⟩,
    ⟨some 10, .assign (.tmp 26), none⟩]) (.seq (.reg [⟨some 27, .move (.tmp 10), none⟩,
    ⟨some 28, .binOp .neq 28 (.tmp 27) (.const (.int .i64 0)) 28, none⟩]) (.cond (.tmp 28) (.seq (.reg [⟨some 29, .move (.tmp 10), none⟩,
    ⟨some 4, .assign (.const (.pointer none)), none⟩,
    ⟨some 5, .assign (.tmp 29), none⟩]) .ret) .skip))))) (.reg [⟨some 30, .binOp .add 3 (.tmp 20) (.const (.int .i64 1)) 3, none⟩,
    ⟨some 20, .move (.tmp 30), none⟩]))))))) (.seq (.reg [⟨some 31, .move (.tmp 6), none⟩,
    ⟨some 4, .assign (.tmp 31), none⟩,
    ⟨some 5, .assign (.const (.int .i64 0)), none⟩]) .ret))))
theorem at100 {args : List AV} {H : AH} {Q : AV → AH → Prop} (hl : args.length ≤ 32) (h : swp Tryz.prog s100 (fin Tryz.prog [.tmp 4, .tmp 5] Q) (env0 args) H) : AC Tryz.prog 100 args H Q :=
  AC.of (fun _ => []) Tryz.func100 rfl (by kernel_rfl) mixed (by kernel_rfl) (by kernel_rfl) rfl hl h
/-! ### function 101: codewright/matrix.entries -/
def s101 : SC :=
  .seq (.reg [⟨some 4, .assign (.const (.int .i64 0)), none⟩]) (.seq (.seq (.reg [⟨some 7, .move (.tmp 1), none⟩,
    ⟨some 8, .call { callee := .builtin .len, args := #[.tmp 7], argTypes := #[22] }, none⟩,
    ⟨some 9, .move (.const (.int .i64 0)), none⟩]) (.block 0 (.loop (.seq (.reg [⟨some 10, .binOp .lss 3 (.tmp 9) (.tmp 8) 3, none⟩]) (.seq (.cond (.tmp 10) .skip (.exit 0)) (.seq (.block 1 (.seq (.reg [⟨some 11, .indexAddr 22 (.tmp 7) (.tmp 9), none⟩,
    ⟨some 12, .load 3 (.tmp 11), none⟩,
    ⟨some 6, .assign (.tmp 12), none⟩]) (.seq (.reg [⟨some 13, .move (.tmp 0), none⟩,
    ⟨some 14, .move (.tmp 6), none⟩,
    ⟨some 15, .call { callee := .value (.func 141), args := #[.tmp 13, .tmp 14], argTypes := #[89, 3] }, none⟩,
    ⟨some 16, .unOp .not 4 (.tmp 15), none⟩]) (.cond (.tmp 16) (.seq (.reg [⟨some 4, .assign (.const (.int .i64 2)), none⟩]) .ret) .skip)))) (.reg [⟨some 17, .binOp .add 3 (.tmp 9) (.const (.int .i64 1)) 3, none⟩,
    ⟨some 9, .move (.tmp 17), none⟩]))))))) (.seq (.reg [⟨some 4, .assign (.const (.int .i64 0)), none⟩]) .ret))
theorem at101 {args : List AV} {H : AH} {Q : AV → AH → Prop} (hl : args.length ≤ 18) (h : swp Tryz.prog s101 (fin Tryz.prog [.tmp 4] Q) (env0 args) H) : AC Tryz.prog 101 args H Q :=
  AC.of (fun _ => []) Tryz.func101 rfl (by kernel_rfl) mixed (by kernel_rfl) (by kernel_rfl) rfl hl h
/-! ### function 103: codewright/ordering.dimension -/
def pl103 : Nat → Plan
  | 1 => [(0, []), (1, []), (3, []), (4, []), (5, []), (8, []), (9, []), (10, []), (2, [3, 9]), (6, [9]), (7, []), (11, []), (12, [])]
  | _ => []
def s103 : SC :=
  .seq (.reg [⟨some 2, .box 27 (.tmp 0), none⟩,
    ⟨some 4, .assign (.const (.int .i64 0)), none⟩]) (.seq (.draw [(0, [], ⟨some 5, .load 27 (.tmp 2), none⟩),
    (1, [], ⟨some 6, .move (.tmp 1), none⟩),
    (3, [], ⟨some 8, .load 27 (.tmp 2), none⟩),
    (4, [], ⟨some 9, .move (.tmp 1), none⟩),
    (5, [], ⟨some 10, .unOp .xor 116 (.tmp 9), none⟩),
    (8, [], ⟨some 13, .fieldAddr 27 (.tmp 2) 2, none⟩),
    (9, [], ⟨some 14, .load 25 (.tmp 13), none⟩),
    (10, [], ⟨some 15, .call { callee := .builtin .len, args := #[.tmp 14], argTypes := #[25] }, none⟩),
    (2, [3, 9], ⟨some 7, .call { callee := .value (.func 145), args := #[.tmp 5, .tmp 6], argTypes := #[27, 116] }, none⟩),
    (6, [9], ⟨some 11, .call { callee := .value (.func 145), args := #[.tmp 8, .tmp 10], argTypes := #[27, 116] }, none⟩),
    (7, [], ⟨some 12, .binOp .add 3 (.tmp 7) (.tmp 11) 3, none⟩),
    (11, [], ⟨some 16, .binOp .sub 3 (.tmp 12) (.tmp 15) 3, none⟩),
    (12, [], ⟨some 4, .assign (.tmp 16), none⟩)]) .ret)
theorem at103 {args : List AV} {H : AH} {Q : AV → AH → Prop} (hl : args.length ≤ 17) (h : swp Tryz.prog s103 (fin Tryz.prog [.tmp 4] Q) (env0 args) H) : AC Tryz.prog 103 args H Q :=
  AC.of (pl103) Tryz.func103 rfl (by kernel_rfl) mixed (by kernel_rfl) (by kernel_rfl) rfl hl h
/-! ### function 104: codewright/codewrightref48.IsOrder -/
def s104 : SC :=
  .seq (.reg [⟨some 4, .assign (.const (.bool false)), none⟩]) (.seq (.seq (.reg [⟨some 7, .move (.tmp 1), none⟩,
    ⟨some 8, .call { callee := .builtin .len, args := #[.tmp 7], argTypes := #[22] }, none⟩,
    ⟨some 9, .move (.tmp 0), none⟩,
    ⟨some 10, .binOp .neq 3 (.tmp 8) (.tmp 9) 3, none⟩]) (.cond (.tmp 10) (.seq (.reg [⟨some 4, .assign (.const (.bool false)), none⟩]) .ret) .skip)) (.seq (.reg [⟨some 11, .move (.tmp 0), none⟩,
    ⟨some 12, .makeSlice 58 (.tmp 11) (.tmp 11), none⟩,
    ⟨some 5, .assign (.tmp 12), none⟩]) (.seq (.seq (.reg [⟨some 6, .assign (.const (.int .i64 0)), none⟩]) (.block 0 (.loop (.seq (.seq (.reg [⟨some 13, .move (.tmp 6), none⟩,
    ⟨some 14, .move (.tmp 0), none⟩,
    ⟨some 15, .binOp .lss 3 (.tmp 13) (.tmp 14) 3, none⟩]) (.cond (.tmp 15) .skip (.exit 0))) (.seq (.block 1 (.seq (.seq (.reg [⟨some 18, .move (.tmp 1), none⟩,
    ⟨some 19, .move (.tmp 6), none⟩,
    ⟨some 20, .indexAddr 22 (.tmp 18) (.tmp 19), none⟩,
    ⟨some 21, .load 3 (.tmp 20), none⟩,
    ⟨some 22, .binOp .lss 3 (.tmp 21) (.const (.int .i64 0)) 3, none⟩,
    ⟨some 23, .move (.tmp 22), none⟩,
    ⟨some 24, .move (.tmp 1), some (23, false)⟩,
    ⟨some 25, .move (.tmp 6), some (23, false)⟩,
    ⟨some 26, .indexAddr 22 (.tmp 24) (.tmp 25), some (23, false)⟩,
    ⟨some 27, .load 3 (.tmp 26), some (23, false)⟩,
    ⟨some 28, .move (.tmp 0), some (23, false)⟩,
    ⟨some 29, .binOp .geq 3 (.tmp 27) (.tmp 28) 3, some (23, false)⟩,
    ⟨some 30, .pick (.tmp 23) (.const (.bool true)) (.tmp 29), none⟩,
    ⟨some 31, .move (.tmp 30), none⟩,
    ⟨some 32, .move (.tmp 5), some (31, false)⟩,
    ⟨some 33, .move (.tmp 1), some (31, false)⟩,
    ⟨some 34, .move (.tmp 6), some (31, false)⟩,
    ⟨some 35, .indexAddr 22 (.tmp 33) (.tmp 34), some (31, false)⟩,
    ⟨some 36, .load 3 (.tmp 35), some (31, false)⟩,
    ⟨some 37, .indexAddr 58 (.tmp 32) (.tmp 36), some (31, false)⟩,
    ⟨some 38, .load 4 (.tmp 37), some (31, false)⟩,
    ⟨some 39, .pick (.tmp 31) (.const (.bool true)) (.tmp 38), none⟩]) (.cond (.tmp 39) (.seq (.reg [⟨some 4, .assign (.const (.bool false)), none⟩]) .ret) .skip)) (.reg [⟨some 40, .move (.tmp 5), none⟩,
    ⟨some 41, .move (.tmp 1), none⟩,
    ⟨some 42, .move (.tmp 6), none⟩,
    ⟨some 43, .indexAddr 22 (.tmp 41) (.tmp 42), none⟩,
    ⟨some 44, .load 3 (.tmp 43), none⟩,
    ⟨some 45, .indexAddr 58 (.tmp 40) (.tmp 44), none⟩,
    ⟨none, .store 4 (.tmp 45) (.const (.bool true)), none⟩]))) (.reg [⟨some 16, .move (.tmp 6), none⟩,
    ⟨some 17, .binOp .add 3 (.tmp 16) (.const (.int .i64 1)) 3, none⟩,
    ⟨some 6, .assign (.tmp 17), none⟩])))))) (.seq (.reg [⟨some 4, .assign (.const (.bool true)), none⟩]) .ret))))
theorem at104 {args : List AV} {H : AH} {Q : AV → AH → Prop} (hl : args.length ≤ 46) (h : swp Tryz.prog s104 (fin Tryz.prog [.tmp 4] Q) (env0 args) H) : AC Tryz.prog 104 args H Q :=
  AC.of (fun _ => []) Tryz.func104 rfl (by kernel_rfl) mixed (by kernel_rfl) (by kernel_rfl) rfl hl h
/-! ### function 105: codewright/codewrightref48.rank -/
/-! ### function 106: codewright/codewrightref48.Others -/
/-! ### function 107: codewright/modify.set -/
def s107 : SC :=
  .seq (.reg [⟨some 4, .assign (.const (.bool false)), none⟩]) (.seq (.seq (.reg [⟨some 7, .move (.tmp 0), none⟩,
    ⟨some 8, .call { callee := .builtin .len, args := #[.tmp 7], argTypes := #[22] }, none⟩,
    ⟨some 9, .move (.const (.int .i64 0)), none⟩]) (.block 0 (.loop (.seq (.reg [⟨some 10, .binOp .lss 3 (.tmp 9) (.tmp 8) 3, none⟩]) (.seq (.cond (.tmp 10) .skip (.exit 0)) (.seq (.block 1 (.seq (.reg [⟨some 11, .move (.tmp 9), none⟩,
    ⟨some 12, .indexAddr 22 (.tmp 7) (.tmp 9), none⟩,
    ⟨some 13, .load 3 (.tmp 12), none⟩,
    ⟨some 5, .assign (.tmp 11), none⟩,
    ⟨some 6, .assign (.tmp 13), none⟩]) (.seq (.reg [⟨some 14, .move (.tmp 6), none⟩,
    ⟨some 15, .binOp .lss 3 (.tmp 14) (.const (.int .i64 0)) 3, none⟩,
    ⟨some 16, .move (.tmp 15), none⟩,
    ⟨some 17, .move (.tmp 6), some (16, false)⟩,
    ⟨some 18, .move (.tmp 1), some (16, false)⟩,
    ⟨some 19, .binOp .geq 3 (.tmp 17) (.tmp 18) 3, some (16, false)⟩,
    ⟨some 20, .pick (.tmp 16) (.const (.bool true)) (.tmp 19), none⟩,
    ⟨some 21, .move (.tmp 20), none⟩,
    ⟨some 22, .move (.tmp 5), some (21, false)⟩,
    ⟨some 23, .binOp .gtr 3 (.tmp 22) (.const (.int .i64 0)) 3, some (21, false)⟩,
    ⟨some 24, .move (.tmp 23), some (21, false)⟩,
    ⟨some 25, .move (.tmp 6), some (24, true)⟩,
    ⟨some 26, .move (.tmp 0), some (24, true)⟩,
    ⟨some 27, .move (.tmp 5), some (24, true)⟩,
    ⟨some 28, .binOp .sub 3 (.tmp 27) (.const (.int .i64 1)) 3, some (24, true)⟩,
    ⟨some 29, .indexAddr 22 (.tmp 26) (.tmp 28), some (24, true)⟩,
    ⟨some 30, .load 3 (.tmp 29), some (24, true)⟩,
    ⟨some 31, .binOp .leq 3 (.tmp 25) (.tmp 30) 3, some (24, true)⟩,
    ⟨some 32, .pick (.tmp 24) (.tmp 31) (.const (.bool false)), some (21, false)⟩,
    ⟨some 33, .pick (.tmp 21) (.const (.bool true)) (.tmp 32), none⟩]) (.cond (.tmp 33) (.seq (.reg [⟨some 4, .assign (.const (.bool false)), none⟩]) .ret) .skip)))) (.reg [⟨some 34, .binOp .add 3 (.tmp 9) (.const (.int .i64 1)) 3, none⟩,
    ⟨some 9, .move (.tmp 34), none⟩]))))))) (.seq (.reg [⟨some 4, .assign (.const (.bool true)), none⟩]) .ret))
theorem at107 {args : List AV} {H : AH} {Q : AV → AH → Prop} (hl : args.length ≤ 35) (h : swp Tryz.prog s107 (fin Tryz.prog [.tmp 4] Q) (env0 args) H) : AC Tryz.prog 107 args H Q :=
  AC.of (fun _ => []) Tryz.func107 rfl (by kernel_rfl) mixed (by kernel_rfl) (by kernel_rfl) rfl hl h
/-! ### function 108: codewright/field.Check -/
def pl108 : Nat → Plan
  | 1 => [(0, []), (1, []), (2, []), (3, []), (4, []), (5, []), (6, []), (7, []), (8, []), (9, [4]), (10, []), (11, []), (12, [])]
  | _ => []
def s108 : SC :=
  .seq (.reg [⟨some 1, .box 24 (.tmp 0), none⟩,
    ⟨some 2, .assign (.const (.int .i64 0)), none⟩]) (.seq (.seq (.draw [(0, [], ⟨some 3, .load 24 (.tmp 1), none⟩),
    (1, [], ⟨some 4, .call { callee := .value (.func 146), args := #[.tmp 3], argTypes := #[24] }, none⟩),
    (2, [], ⟨some 5, .unOp .not 4 (.tmp 4), none⟩),
    (3, [], ⟨some 6, .move (.tmp 5), none⟩),
    (4, [], ⟨some 7, .load 24 (.tmp 1), some (6, false)⟩),
    (5, [], ⟨some 8, .fieldAddr 24 (.tmp 1) 0, some (6, false)⟩),
    (6, [], ⟨some 9, .load 3 (.tmp 8), some (6, false)⟩),
    (7, [], ⟨some 10, .fieldAddr 24 (.tmp 1) 1, some (6, false)⟩),
    (8, [], ⟨some 11, .load 3 (.tmp 10), some (6, false)⟩),
    (9, [4], ⟨some 12, .call { callee := .value (.func 148), args := #[.tmp 9, .tmp 11], argTypes := #[3, 3] }, some (6, false)⟩),
    (10, [], ⟨some 13, .call { callee := .value (.func 147), args := #[.tmp 7, .tmp 12], argTypes := #[24, 3] }, some (6, false)⟩),
    (11, [], ⟨some 14, .binOp .eql 22 (.tmp 13) (.const (.slice none 0 0)) 22, some (6, false)⟩),
    (12, [], ⟨some 15, .pick (.tmp 6) (.const (.bool true)) (.tmp 14), none⟩)]) (.cond (.tmp 15) (.seq (.reg [⟨some 2, .assign (.const (.int .i64 1)), none⟩]) .ret) .skip)) (.seq (.reg [⟨some 2, .assign (.const (.int .i64 0)), none⟩]) .ret))
theorem at108 {args : List AV} {H : AH} {Q : AV → AH → Prop} (hl : args.length ≤ 16) (h : swp Tryz.prog s108 (fin Tryz.prog [.tmp 2] Q) (env0 args) H) : AC Tryz.prog 108 args H Q :=
  AC.of (pl108) Tryz.func108 rfl (by kernel_rfl) mixed (by kernel_rfl) (by kernel_rfl) rfl hl h
/-! ### function 109: codewright/space.Check -/
def s109 : SC :=
  .seq (.reg [⟨some 2, .box 24 (.tmp 0), none⟩,
    ⟨some 3, .box 62 (.tmp 1), none⟩,
    ⟨some 4, .assign (.const (.int .i64 0)), none⟩]) (.seq (.reg [⟨some 8, .load 24 (.tmp 2), none⟩,
    ⟨some 9, .load 62 (.tmp 3), none⟩,
    ⟨some 10, .call { callee := .value (.func 114), args := #[.tmp 8, .tmp 9], argTypes := #[24, 62] }, none⟩,
    ⟨some 7, .move (.tmp 10), none⟩,
    ⟨some 11, .extract (.tmp 7) 0, none⟩,
    ⟨some 12, .extract (.tmp 7) 1, none⟩,
    ⟨some 5, .alloc 126, none⟩,
    ⟨none, .store 126 (.tmp 5) (.tmp 11), none⟩,
    ⟨some 6, .assign (.tmp 12), none⟩]) (.seq (.reg [⟨some 13, .move (.tmp 6), none⟩,
    ⟨some 4, .assign (.tmp 13), none⟩]) .ret))
theorem at109 {args : List AV} {H : AH} {Q : AV → AH → Prop} (hl : args.length ≤ 14) (h : swp Tryz.prog s109 (fin Tryz.prog [.tmp 4] Q) (env0 args) H) : AC Tryz.prog 109 args H Q :=
  AC.of (fun _ => []) Tryz.func109 rfl (by kernel_rfl) mixed (by kernel_rfl) (by kernel_rfl) rfl hl h
/-! ### function 110: codewright/trellis.span -/
/-! ### function 111: codewright/codewrightref09.Canon -/
def s111 : SC :=
  .seq (.reg [⟨some 3, .box 24 (.tmp 0), none⟩,
    ⟨some 6, .assign (.const (.slice none 0 0)), none⟩,
    ⟨some 7, .assign (.const (.slice none 0 0)), none⟩]) (.seq (.reg [⟨some 11, .load 24 (.tmp 3), none⟩,
    ⟨some 12, .move (.tmp 1), none⟩,
    ⟨some 13, .move (.tmp 2), none⟩,
    ⟨some 14, .call { callee := .value (.func 149), args := #[.tmp 11, .tmp 12, .tmp 13], argTypes := #[24, 25, 3] }, none⟩,
    ⟨some 10, .move (.tmp 14), none⟩,
    ⟨some 15, .extract (.tmp 10) 0, none⟩,
    ⟨some 16, .extract (.tmp 10) 1, none⟩,
    ⟨some 8, .assign (.tmp 15), none⟩,
    ⟨some 9, .assign (.tmp 16), none⟩]) (.seq (.reg [⟨some 17, .move (.tmp 8), none⟩,
    ⟨some 18, .move (.tmp 9), none⟩,
    ⟨some 19, .call { callee := .builtin .len, args := #[.tmp 18], argTypes := #[22] }, none⟩,
    ⟨some 20, .slice 25 (.tmp 17) none (some (.tmp 19)) none, none⟩,
    ⟨some 21, .move (.tmp 9), none⟩,
    ⟨some 6, .assign (.tmp 20), none⟩,
    ⟨some 7, .assign (.tmp 21), none⟩]) .ret))
theorem at111 {args : List AV} {H : AH} {Q : AV → AH → Prop} (hl : args.length ≤ 22) (h : swp Tryz.prog s111 (fin Tryz.prog [.tmp 6, .tmp 7] Q) (env0 args) H) : AC Tryz.prog 111 args H Q :=
  AC.of (fun _ => []) Tryz.func111 rfl (by kernel_rfl) mixed (by kernel_rfl) (by kernel_rfl) rfl hl h
/-! ### function 112: codewright/codewrightref12.Field -/
def pl112 : Nat → Plan
  | 1 => [(0, []), (1, []), (2, []), (3, []), (5, []), (6, []), (4, []), (7, [1, 3]), (8, []), (9, [])]
  | _ => []
def s112 : SC :=
  .seq (.reg [⟨some 1, .box 24 (.tmp 0), none⟩,
    ⟨some 2, .alloc 24, none⟩]) (.seq (.draw [(0, [], ⟨some 3, .fieldAddr 24 (.tmp 1) 0, none⟩),
    (1, [], ⟨some 4, .load 3 (.tmp 3), none⟩),
    (2, [], ⟨some 5, .fieldAddr 24 (.tmp 1) 1, none⟩),
    (3, [], ⟨some 6, .load 3 (.tmp 5), none⟩),
    (5, [], ⟨some 8, .fieldAddr 24 (.tmp 1) 2, none⟩),
    (6, [], ⟨some 9, .load 22 (.tmp 8), none⟩),
    (4, [], ⟨some 7, .buildSlice 22 0 #[], none⟩),
    (7, [1, 3], ⟨some 10, .call { callee := .builtin .append, args := #[.tmp 7, .tmp 9], argTypes := #[22, 22] }, none⟩),
    (8, [], ⟨some 11, .build 24 #[(0, .tmp 4), (1, .tmp 6), (2, .tmp 10)], none⟩),
    (9, [], ⟨none, .store 24 (.tmp 2) (.tmp 11), none⟩)]) .ret)
theorem at112 {args : List AV} {H : AH} {Q : AV → AH → Prop} (hl : args.length ≤ 12) (h : swp Tryz.prog s112 (fin Tryz.prog [.cell 2 24] Q) (env0 args) H) : AC Tryz.prog 112 args H Q :=
  AC.of (pl112) Tryz.func112 rfl (by kernel_rfl) mixed (by kernel_rfl) (by kernel_rfl) rfl hl h
/-! ### function 113: codewright/codewrightref09.AddTo -/
def pl113 : Nat → Plan
  | 7 => [(0, []), (1, []), (2, []), (3, []), (4, []), (5, []), (6, []), (7, []), (8, []), (9, []), (10, []), (11, []), (12, []), (13, [2, 6]), (14, []), (15, []), (16, [])]
  | _ => []
def s113 : SC :=
  .seq (.reg [⟨some 4, .box 24 (.tmp 0), none⟩,
    ⟨some 8, .assign (.const (.slice none 0 0)), none⟩]) (.seq (.reg [⟨some 11, .move (.tmp 1), none⟩,
    ⟨some 12, .call { callee := .builtin .len, args := #[.tmp 11], argTypes := #[22] }, none⟩,
    ⟨some 13, .makeSlice 22 (.tmp 12) (.tmp 12), none⟩,
    ⟨some 9, .assign (.tmp 13), none⟩]) (.seq (.seq (.reg [⟨some 10, .assign (.const (.int .i64 0)), none⟩]) (.block 0 (.loop (.seq (.seq (.reg [⟨some 14, .move (.tmp 10), none⟩,
    ⟨some 15, .move (.tmp 1), none⟩,
    ⟨some 16, .call { callee := .builtin .len, args := #[.tmp 15], argTypes := #[22] }, none⟩,
    ⟨some 17, .binOp .lss 3 (.tmp 14) (.tmp 16) 3, none⟩]) (.cond (.tmp 17) .skip (.exit 0))) (.seq (.block 1 (.seq (.reg [⟨some 20, .move (.tmp 9), none⟩,
    ⟨some 21, .move (.tmp 10), none⟩,
    ⟨some 22, .move (.tmp 1), none⟩,
    ⟨some 23, .move (.tmp 10), none⟩,
    ⟨some 24, .indexAddr 22 (.tmp 22) (.tmp 23), none⟩,
    ⟨some 25, .load 3 (.tmp 24), none⟩,
    ⟨some 26, .indexAddr 22 (.tmp 20) (.tmp 21), none⟩,
    ⟨none, .store 3 (.tmp 26) (.tmp 25), none⟩]) (.seq (.reg [⟨some 27, .move (.tmp 3), none⟩,
    ⟨some 28, .move (.tmp 10), none⟩,
    ⟨some 29, .indexAddr 22 (.tmp 27) (.tmp 28), none⟩,
    ⟨some 30, .load 3 (.tmp 29), none⟩,
    ⟨some 31, .binOp .neq 3 (.tmp 30) (.const (.int .i64 0)) 3, none⟩]) (.cond (.tmp 31) (.draw [(0, [], ⟨some 32, .move (.tmp 9), none⟩),
    (1, [], ⟨some 33, .move (.tmp 10), none⟩),
    (2, [], ⟨some 34, .load 24 (.tmp 4), none⟩),
    (3, [], ⟨some 35, .move (.tmp 1), none⟩),
    (4, [], ⟨some 36, .move (.tmp 10), none⟩),
    (5, [], ⟨some 37, .indexAddr 22 (.tmp 35) (.tmp 36), none⟩),
    (6, [], ⟨some 38, .load 3 (.tmp 37), none⟩),
    (7, [], ⟨some 39, .load 24 (.tmp 4), none⟩),
    (8, [], ⟨some 40, .move (.tmp 2), none⟩),
    (9, [], ⟨some 41, .move (.tmp 3), none⟩),
    (10, [], ⟨some 42, .move (.tmp 10), none⟩),
    (11, [], ⟨some 43, .indexAddr 22 (.tmp 41) (.tmp 42), none⟩),
    (12, [], ⟨some 44, .load 3 (.tmp 43), none⟩),
    (13, [2, 6], ⟨some 45, .call { callee := .value (.func 151), args := #[.tmp 39, .tmp 40, .tmp 44], argTypes := #[24, 3, 3] }, none⟩),
    (14, [], ⟨some 46, .call { callee := .value (.func 150), args := #[.tmp 34, .tmp 38, .tmp 45], argTypes := #[24, 3, 3] }, none⟩),
    (15, [], ⟨some 47, .indexAddr 22 (.tmp 32) (.tmp 33), none⟩),
    (16, [], ⟨none, .store 3 (.tmp 47) (.tmp 46), none⟩)]) .skip)))) (.reg [⟨some 18, .move (.tmp 10), none⟩,
    ⟨some 19, .binOp .add 3 (.tmp 18) (.const (.int .i64 1)) 3, none⟩,
    ⟨some 10, .assign (.tmp 19), none⟩])))))) (.seq (.reg [⟨some 48, .move (.tmp 9), none⟩,
    ⟨some 8, .assign (.tmp 48), none⟩]) .ret)))
theorem at113 {args : List AV} {H : AH} {Q : AV → AH → Prop} (hl : args.length ≤ 49) (h : swp Tryz.prog s113 (fin Tryz.prog [.tmp 8] Q) (env0 args) H) : AC Tryz.prog 113 args H Q :=
  AC.of (pl113) Tryz.func113 rfl (by kernel_rfl) mixed (by kernel_rfl) (by kernel_rfl) rfl hl h
/-! ### function 114: codewright/space.open -/
def s114 : SC :=
  .seq (.reg [⟨some 2, .box 24 (.tmp 0), none⟩,
    ⟨some 3, .box 62 (.tmp 1), none⟩,
    ⟨some 4, .alloc 126, none⟩,
    ⟨some 5, .assign (.const (.int .i64 0)), none⟩]) (.seq (.reg [⟨some 11, .load 24 (.tmp 2), none⟩,
    ⟨some 12, .load 62 (.tmp 3), none⟩,
    ⟨some 13, .call { callee := .value (.func 94), args := #[.tmp 11, .tmp 12], argTypes := #[24, 62] }, none⟩,
    ⟨some 10, .move (.tmp 13), none⟩,
    ⟨some 14, .extract (.tmp 10) 0, none⟩,
    ⟨some 15, .extract (.tmp 10) 1, none⟩,
    ⟨some 16, .extract (.tmp 10) 2, none⟩,
    ⟨some 6, .alloc 62, none⟩,
    ⟨none, .store 62 (.tmp 6) (.tmp 14), none⟩,
    ⟨some 7, .assign (.tmp 15), none⟩,
    ⟨some 8, .assign (.tmp 16), none⟩]) (.seq (.seq (.reg [⟨some 17, .move (.tmp 8), none⟩,
    ⟨some 18, .binOp .neq 28 (.tmp 17) (.const (.int .i64 0)) 28, none⟩]) (.cond (.tmp 18) (.seq (.reg [⟨some 19, .build 126 #[], none⟩,
    ⟨some 20, .move (.tmp 8), none⟩,
    ⟨none, .store 126 (.tmp 4) (.tmp 19), none⟩,
    ⟨some 5, .assign (.tmp 20), none⟩]) .ret) .skip)) (.seq (.seq (.reg [⟨some 21, .fieldAddr 62 (.tmp 6) 1, none⟩,
    ⟨some 22, .load 25 (.tmp 21), none⟩,
    ⟨some 23, .fieldAddr 62 (.tmp 3) 1, none⟩,
    ⟨some 24, .load 25 (.tmp 23), none⟩,
    ⟨some 25, .call { callee := .value (.func 152), args := #[.tmp 22, .tmp 24, .func 153], argTypes := #[25, 25, 44] }, none⟩,
    ⟨some 26, .unOp .not 4 (.tmp 25), none⟩]) (.cond (.tmp 26) (.seq (.reg [⟨some 27, .build 126 #[], none⟩,
    ⟨none, .store 126 (.tmp 4) (.tmp 27), none⟩,
    ⟨some 5, .assign (.const (.int .i64 5)), none⟩]) .ret) .skip)) (.seq (.reg [⟨some 29, .load 24 (.tmp 2), none⟩,
    ⟨some 30, .call { callee := .value (.func 118), args := #[.tmp 29], argTypes := #[24] }, none⟩,
    ⟨some 28, .move (.tmp 30), none⟩,
    ⟨some 31, .extract (.tmp 28) 0, none⟩,
    ⟨some 32, .extract (.tmp 28) 1, none⟩,
    ⟨some 9, .assign (.tmp 31), none⟩,
    ⟨some 8, .assign (.tmp 32), none⟩]) (.seq (.reg [⟨some 33, .move (.tmp 9), none⟩,
    ⟨some 34, .load 62 (.tmp 3), none⟩,
    ⟨some 35, .move (.tmp 7), none⟩,
    ⟨some 36, .build 126 #[(0, .tmp 33), (1, .tmp 34), (2, .tmp 35)], none⟩,
    ⟨some 37, .move (.tmp 8), none⟩,
    ⟨none, .store 126 (.tmp 4) (.tmp 36), none⟩,
    ⟨some 5, .assign (.tmp 37), none⟩]) .ret)))))
theorem at114 {args : List AV} {H : AH} {Q : AV → AH → Prop} (hl : args.length ≤ 38) (h : swp Tryz.prog s114 (fin Tryz.prog [.cell 4 126, .tmp 5] Q) (env0 args) H) : AC Tryz.prog 114 args H Q :=
  AC.of (fun _ => []) Tryz.func114 rfl (by kernel_rfl) mixed (by kernel_rfl) (by kernel_rfl) rfl hl h
/-! ### function 115: (codewright/space.view).word -/
def s115 : SC :=
  .seq (.reg [⟨some 2, .box 126 (.tmp 0), none⟩,
    ⟨some 4, .assign (.const (.int .i64 0)), none⟩]) (.seq (.seq (.reg [⟨some 5, .move (.tmp 1), none⟩,
    ⟨some 6, .call { callee := .builtin .len, args := #[.tmp 5], argTypes := #[22] }, none⟩,
    ⟨some 7, .fieldAddr 126 (.tmp 2) 1, none⟩,
    ⟨some 8, .fieldAddr 62 (.tmp 7) 0, none⟩,
    ⟨some 9, .load 3 (.tmp 8), none⟩,
    ⟨some 10, .binOp .neq 3 (.tmp 6) (.tmp 9) 3, none⟩]) (.cond (.tmp 10) (.seq (.reg [⟨some 4, .assign (.const (.int .i64 3)), none⟩]) .ret) .skip)) (.seq (.seq (.reg [⟨some 11, .move (.tmp 1), none⟩,
    ⟨some 12, .makeFunc (.func 154) #[] #[.tmp 2], none⟩,
    ⟨some 13, .call { callee := .value (.func 139), args := #[.tmp 11, .tmp 12], argTypes := #[22, 137] }, none⟩]) (.cond (.tmp 13) (.seq (.reg [⟨some 4, .assign (.const (.int .i64 2)), none⟩]) .ret) .skip)) (.seq (.reg [⟨some 4, .assign (.const (.int .i64 0)), none⟩]) .ret)))
theorem at115 {args : List AV} {H : AH} {Q : AV → AH → Prop} (hl : args.length ≤ 14) (h : swp Tryz.prog s115 (fin Tryz.prog [.tmp 4] Q) (env0 args) H) : AC Tryz.prog 115 args H Q :=
  AC.of (fun _ => []) Tryz.func115 rfl (by kernel_rfl) mixed (by kernel_rfl) (by kernel_rfl) rfl hl h
/-! ### function 116: (codewright/space.view).has -/
def s116 : SC :=
  .seq (.reg [⟨some 2, .box 126 (.tmp 0), none⟩,
    ⟨some 4, .assign (.const (.bool false)), none⟩]) (.seq (.reg [⟨some 8, .load 126 (.tmp 2), none⟩,
    ⟨some 9, .move (.tmp 1), none⟩,
    ⟨some 10, .call { callee := .value (.func 155), args := #[.tmp 8, .tmp 9], argTypes := #[126, 22] }, none⟩,
    ⟨some 7, .move (.tmp 10), none⟩,
    ⟨some 11, .extract (.tmp 7) 0, none⟩,
    ⟨some 12, .extract (.tmp 7) 1, none⟩,
    ⟨some 5, .assign (.tmp 11), none⟩,
    ⟨some 6, .assign (.tmp 12), none⟩]) (.seq (.reg [⟨some 13, .move (.tmp 5), none⟩,
    ⟨some 14, .call { callee := .value (.func 156), args := #[.tmp 13], argTypes := #[22] }, none⟩,
    ⟨some 4, .assign (.tmp 14), none⟩]) .ret))
theorem at116 {args : List AV} {H : AH} {Q : AV → AH → Prop} (hl : args.length ≤ 15) (h : swp Tryz.prog s116 (fin Tryz.prog [.tmp 4] Q) (env0 args) H) : AC Tryz.prog 116 args H Q :=
  AC.of (fun _ => []) Tryz.func116 rfl (by kernel_rfl) mixed (by kernel_rfl) (by kernel_rfl) rfl hl h
/-! ### function 118: codewright/field.New -/
def pl118 : Nat → Plan
  | 7 => [(0, []), (1, []), (2, []), (3, []), (5, []), (6, []), (9, []), (10, []), (11, []), (4, []), (7, [1, 3]), (8, []), (12, []), (13, []), (14, []), (15, [])]
  | _ => []
def s118 : SC :=
  .seq (.reg [⟨some 1, .box 24 (.tmp 0), none⟩,
    ⟨some 2, .assign (.const (.pointer none)), none⟩,
    ⟨some 3, .assign (.const (.int .i64 0)), none⟩]) (.seq (.seq (.reg [⟨some 9, .load 24 (.tmp 1), none⟩,
    ⟨some 10, .call { callee := .value (.func 146), args := #[.tmp 9], argTypes := #[24] }, none⟩,
    ⟨some 11, .unOp .not 4 (.tmp 10), none⟩]) (.cond (.tmp 11) (.seq (.reg [⟨some 2, .assign (.const (.pointer none)), none⟩,
    ⟨some 3, .assign (.const (.int .i64 1)), none⟩]) .ret) .skip)) (.seq (.reg [⟨some 12, .fieldAddr 24 (.tmp 1) 0, none⟩,
    ⟨some 13, .load 3 (.tmp 12), none⟩,
    ⟨some 14, .fieldAddr 24 (.tmp 1) 1, none⟩,
    ⟨some 15, .load 3 (.tmp 14), none⟩,
    ⟨some 16, .call { callee := .value (.func 148), args := #[.tmp 13, .tmp 15], argTypes := #[3, 3] }, none⟩,
    ⟨some 4, .assign (.tmp 16), none⟩]) (.seq (.reg [⟨some 17, .load 24 (.tmp 1), none⟩,
    ⟨some 18, .move (.tmp 4), none⟩,
    ⟨some 19, .call { callee := .value (.func 147), args := #[.tmp 17, .tmp 18], argTypes := #[24, 3] }, none⟩,
    ⟨some 5, .assign (.tmp 19), none⟩]) (.seq (.seq (.reg [⟨some 20, .move (.tmp 5), none⟩,
    ⟨some 21, .binOp .eql 22 (.tmp 20) (.const (.slice none 0 0)) 22, none⟩]) (.cond (.tmp 21) (.seq (.reg [⟨some 2, .assign (.const (.pointer none)), none⟩,
    ⟨some 3, .assign (.const (.int .i64 1)), none⟩]) .ret) .skip)) (.seq (.draw [(0, [], ⟨some 22, .fieldAddr 24 (.tmp 1) 0, none⟩),
    (1, [], ⟨some 23, .load 3 (.tmp 22), none⟩),
    (2, [], ⟨some 24, .fieldAddr 24 (.tmp 1) 1, none⟩),
    (3, [], ⟨some 25, .load 3 (.tmp 24), none⟩),
    (5, [], ⟨some 27, .fieldAddr 24 (.tmp 1) 2, none⟩),
    (6, [], ⟨some 28, .load 22 (.tmp 27), none⟩),
    (9, [], ⟨some 31, .move (.tmp 4), none⟩),
    (10, [], ⟨some 32, .move (.tmp 5), none⟩),
    (11, [], ⟨some 33, .move (.tmp 4), none⟩),
    (4, [], ⟨some 26, .buildSlice 22 0 #[], none⟩),
    (7, [1, 3], ⟨some 29, .call { callee := .builtin .append, args := #[.tmp 26, .tmp 28], argTypes := #[22, 22] }, none⟩),
    (8, [], ⟨some 30, .build 24 #[(0, .tmp 23), (1, .tmp 25), (2, .tmp 29)], none⟩),
    (12, [], ⟨some 34, .makeSlice 22 (.tmp 33) (.tmp 33), none⟩),
    (13, [], ⟨some 35, .build 164 #[(0, .tmp 30), (1, .tmp 31), (2, .tmp 32), (3, .tmp 34)], none⟩),
    (14, [], ⟨some 36, .box 164 (.tmp 35), none⟩),
    (15, [], ⟨some 6, .assign (.tmp 36), none⟩)]) (.seq (.seq (.reg [⟨some 37, .move (.tmp 5), none⟩,
    ⟨some 38, .call { callee := .builtin .len, args := #[.tmp 37], argTypes := #[22] }, none⟩,
    ⟨some 39, .move (.const (.int .i64 0)), none⟩]) (.block 0 (.loop (.seq (.reg [⟨some 40, .binOp .lss 3 (.tmp 39) (.tmp 38) 3, none⟩]) (.seq (.cond (.tmp 40) .skip (.exit 0)) (.seq (.block 1 (.seq (.reg [⟨some 41, .move (.tmp 39), none⟩,
    ⟨some 42, .indexAddr 22 (.tmp 37) (.tmp 39), none⟩,
    ⟨some 43, .load 3 (.tmp 42), none⟩,
    ⟨some 7, .assign (.tmp 41), none⟩,
    ⟨some 8, .assign (.tmp 43), none⟩]) (.reg [⟨some 44, .move (.tmp 6), none⟩,
    ⟨some 45, .nilCheck (.tmp 44), none⟩,
    ⟨some 46, .fieldAddr 164 (.tmp 45) 3, none⟩,
    ⟨some 47, .load 22 (.tmp 46), none⟩,
    ⟨some 48, .move (.tmp 8), none⟩,
    ⟨some 49, .move (.tmp 7), none⟩,
    ⟨some 50, .indexAddr 22 (.tmp 47) (.tmp 48), none⟩,
    ⟨none, .store 3 (.tmp 50) (.tmp 49), none⟩]))) (.reg [⟨some 51, .binOp .add 3 (.tmp 39) (.const (.int .i64 1)) 3, none⟩,
    ⟨some 39, .move (.tmp 51), none⟩]))))))) (.seq (.reg [⟨some 52, .move (.tmp 6), none⟩,
    ⟨some 2, .assign (.tmp 52), none⟩,
    ⟨some 3, .assign (.const (.int .i64 0)), none⟩]) .ret)))))))
theorem at118 {args : List AV} {H : AH} {Q : AV → AH → Prop} (hl : args.length ≤ 53) (h : swp Tryz.prog s118 (fin Tryz.prog [.tmp 2, .tmp 3] Q) (env0 args) H) : AC Tryz.prog 118 args H Q :=
  AC.of (pl118) Tryz.func118 rfl (by kernel_rfl) mixed (by kernel_rfl) (by kernel_rfl) rfl hl h
/-! ### function 119: (*codewright/infoset.basis).add -/
def pl119 : Nat → Plan
  | 9 => [(0, []), (1, []), (2, []), (3, []), (4, []), (5, []), (6, []), (7, []), (8, []), (9, []), (10, []), (11, []), (12, []), (13, []), (14, []), (15, []), (16, [5, 9]), (17, []), (18, []), (19, [])]
  | 15 => [(0, []), (1, []), (2, []), (3, []), (4, []), (5, []), (6, []), (7, []), (8, []), (9, []), (10, []), (11, []), (12, []), (13, [])]
  | 16 => [(0, []), (1, []), (2, []), (3, []), (4, []), (5, []), (6, []), (7, []), (8, []), (9, []), (10, []), (11, [4]), (12, []), (13, []), (14, []), (15, []), (16, [])]
  | _ => []
def s119 : SC :=
  .seq (.reg [⟨some 4, .assign (.const (.bool false)), none⟩]) (.seq (.seq (.reg [⟨some 13, .move (.tmp 0), none⟩,
    ⟨some 14, .nilCheck (.tmp 13), none⟩,
    ⟨some 15, .fieldAddr 135 (.tmp 14) 1, none⟩,
    ⟨some 16, .load 25 (.tmp 15), none⟩,
    ⟨some 17, .call { callee := .builtin .len, args := #[.tmp 16], argTypes := #[25] }, none⟩,
    ⟨some 18, .move (.const (.int .i64 0)), none⟩]) (.block 0 (.loop (.seq (.reg [⟨some 19, .binOp .lss 3 (.tmp 18) (.tmp 17) 3, none⟩]) (.seq (.cond (.tmp 19) .skip (.exit 0)) (.seq (.block 1 (.seq (.reg [⟨some 20, .move (.tmp 18), none⟩,
    ⟨some 21, .indexAddr 25 (.tmp 16) (.tmp 18), none⟩,
    ⟨some 22, .load 22 (.tmp 21), none⟩,
    ⟨some 5, .assign (.tmp 20), none⟩,
    ⟨some 6, .assign (.tmp 22), none⟩]) (.seq (.reg [⟨some 23, .move (.tmp 1), none⟩,
    ⟨some 24, .move (.tmp 0), none⟩,
    ⟨some 25, .nilCheck (.tmp 24), none⟩,
    ⟨some 26, .fieldAddr 135 (.tmp 25) 2, none⟩,
    ⟨some 27, .load 22 (.tmp 26), none⟩,
    ⟨some 28, .move (.tmp 5), none⟩,
    ⟨some 29, .indexAddr 22 (.tmp 27) (.tmp 28), none⟩,
    ⟨some 30, .load 3 (.tmp 29), none⟩,
    ⟨some 31, .indexAddr 22 (.tmp 23) (.tmp 30), none⟩,
    ⟨some 32, .load 3 (.tmp 31), none⟩,
    ⟨some 7, .assign (.tmp 32), none⟩]) (.seq (.reg [⟨some 33, .move (.tmp 7), none⟩,
    ⟨some 34, .binOp .neq 3 (.tmp 33) (.const (.int .i64 0)) 3, none⟩]) (.cond (.tmp 34) (.seq (.reg [⟨some 35, .move (.tmp 6), none⟩,
    ⟨some 36, .call { callee := .builtin .len, args := #[.tmp 35], argTypes := #[22] }, none⟩,
    ⟨some 37, .move (.const (.int .i64 0)), none⟩]) (.block 2 (.loop (.seq (.reg [⟨some 38, .binOp .lss 3 (.tmp 37) (.tmp 36) 3, none⟩]) (.seq (.cond (.tmp 38) .skip (.exit 2)) (.seq (.block 3 (.seq (.reg [⟨some 39, .move (.tmp 37), none⟩,
    ⟨some 40, .indexAddr 22 (.tmp 35) (.tmp 37), none⟩,
    ⟨some 41, .load 3 (.tmp 40), none⟩,
    ⟨some 8, .assign (.tmp 39), none⟩,
    ⟨some 9, .assign (.tmp 41), none⟩]) (.draw [(0, [], ⟨some 42, .move (.tmp 1), none⟩),
    (1, [], ⟨some 43, .move (.tmp 8), none⟩),
    (2, [], ⟨some 44, .move (.tmp 0), none⟩),
    (3, [], ⟨some 45, .nilCheck (.tmp 44), none⟩),
    (4, [], ⟨some 46, .fieldAddr 135 (.tmp 45) 0, none⟩),
    (5, [], ⟨some 47, .load 89 (.tmp 46), none⟩),
    (6, [], ⟨some 48, .move (.tmp 1), none⟩),
    (7, [], ⟨some 49, .move (.tmp 8), none⟩),
    (8, [], ⟨some 50, .indexAddr 22 (.tmp 48) (.tmp 49), none⟩),
    (9, [], ⟨some 51, .load 3 (.tmp 50), none⟩),
    (10, [], ⟨some 52, .move (.tmp 0), none⟩),
    (11, [], ⟨some 53, .nilCheck (.tmp 52), none⟩),
    (12, [], ⟨some 54, .fieldAddr 135 (.tmp 53) 0, none⟩),
    (13, [], ⟨some 55, .load 89 (.tmp 54), none⟩),
    (14, [], ⟨some 56, .move (.tmp 7), none⟩),
    (15, [], ⟨some 57, .move (.tmp 9), none⟩),
    (16, [5, 9], ⟨some 58, .call { callee := .value (.func 158), args := #[.tmp 55, .tmp 56, .tmp 57], argTypes := #[89, 3, 3] }, none⟩),
    (17, [], ⟨some 59, .call { callee := .value (.func 157), args := #[.tmp 47, .tmp 51, .tmp 58], argTypes := #[89, 3, 3] }, none⟩),
    (18, [], ⟨some 60, .indexAddr 22 (.tmp 42) (.tmp 43), none⟩),
    (19, [], ⟨none, .store 3 (.tmp 60) (.tmp 59), none⟩)]))) (.reg [⟨some 61, .binOp .add 3 (.tmp 37) (.const (.int .i64 1)) 3, none⟩,
    ⟨some 37, .move (.tmp 61), none⟩]))))))) .skip))))) (.reg [⟨some 62, .binOp .add 3 (.tmp 18) (.const (.int .i64 1)) 3, none⟩,
    ⟨some 18, .move (.tmp 62), none⟩]))))))) (.seq (.reg [⟨some 63, .move (.tmp 1), none⟩,
    ⟨some 64, .call { callee := .value (.func 159), args := #[.tmp 63, .func 160], argTypes := #[22, 137] }, none⟩,
    ⟨some 10, .assign (.tmp 64), none⟩]) (.seq (.seq (.reg [⟨some 65, .move (.tmp 10), none⟩,
    ⟨some 66, .binOp .lss 3 (.tmp 65) (.const (.int .i64 0)) 3, none⟩]) (.cond (.tmp 66) (.seq (.reg [⟨some 4, .assign (.const (.bool false)), none⟩]) .ret) .skip)) (.seq (.draw [(0, [], ⟨some 68, .move (.tmp 0), none⟩),
    (1, [], ⟨some 69, .nilCheck (.tmp 68), none⟩),
    (2, [], ⟨some 70, .fieldAddr 135 (.tmp 69) 0, none⟩),
    (3, [], ⟨some 71, .load 89 (.tmp 70), none⟩),
    (4, [], ⟨some 72, .move (.tmp 1), none⟩),
    (5, [], ⟨some 73, .move (.tmp 10), none⟩),
    (6, [], ⟨some 74, .indexAddr 22 (.tmp 72) (.tmp 73), none⟩),
    (7, [], ⟨some 75, .load 3 (.tmp 74), none⟩),
    (8, [], ⟨some 76, .call { callee := .value (.func 161), args := #[.tmp 71, .tmp 75], argTypes := #[89, 3] }, none⟩),
    (9, [], ⟨some 67, .move (.tmp 76), none⟩),
    (10, [], ⟨some 77, .extract (.tmp 67) 0, none⟩),
    (11, [], ⟨some 78, .extract (.tmp 67) 1, none⟩),
    (12, [], ⟨some 11, .assign (.tmp 77), none⟩),
    (13, [], ⟨some 12, .assign (.tmp 78), none⟩)]) (.seq (.draw [(0, [], ⟨some 79, .move (.tmp 0), none⟩),
    (1, [], ⟨some 80, .move (.tmp 0), none⟩),
    (2, [], ⟨some 81, .nilCheck (.tmp 80), none⟩),
    (3, [], ⟨some 82, .fieldAddr 135 (.tmp 81) 1, none⟩),
    (4, [], ⟨some 83, .load 25 (.tmp 82), none⟩),
    (5, [], ⟨some 84, .move (.tmp 0), none⟩),
    (6, [], ⟨some 85, .nilCheck (.tmp 84), none⟩),
    (7, [], ⟨some 86, .fieldAddr 135 (.tmp 85) 0, none⟩),
    (8, [], ⟨some 87, .load 89 (.tmp 86), none⟩),
    (9, [], ⟨some 88, .move (.tmp 11), none⟩),
    (10, [], ⟨some 89, .move (.tmp 1), none⟩),
    (11, [4], ⟨some 90, .call { callee := .value (.func 162), args := #[.tmp 87, .tmp 88, .tmp 89], argTypes := #[89, 3, 22] }, none⟩),
    (12, [], ⟨some 91, .buildSlice 25 1 #[(0, .tmp 90)], none⟩),
    (13, [], ⟨some 92, .call { callee := .builtin .append, args := #[.tmp 83, .tmp 91], argTypes := #[25, 25] }, none⟩),
    (14, [], ⟨some 93, .nilCheck (.tmp 79), none⟩),
    (15, [], ⟨some 94, .fieldAddr 135 (.tmp 93) 1, none⟩),
    (16, [], ⟨none, .store 25 (.tmp 94) (.tmp 92), none⟩)]) (.seq (.reg [⟨some 95, .move (.tmp 0), none⟩,
    ⟨some 96, .move (.tmp 0), none⟩,
    ⟨some 97, .nilCheck (.tmp 96), none⟩,
    ⟨some 98, .fieldAddr 135 (.tmp 97) 2, none⟩,
    ⟨some 99, .load 22 (.tmp 98), none⟩,
    ⟨some 100, .move (.tmp 10), none⟩,
    ⟨some 101, .buildSlice 22 1 #[(0, .tmp 100)], none⟩,
    ⟨some 102, .call { callee := .builtin .append, args := #[.tmp 99, .tmp 101], argTypes := #[22, 22] }, none⟩,
    ⟨some 103, .nilCheck (.tmp 95), none⟩,
    ⟨some 104, .fieldAddr 135 (.tmp 103) 2, none⟩,
    ⟨none, .store 22 (.tmp 104) (.tmp 102), none⟩]) (.seq (.reg [⟨some 4, .assign (.const (.bool true)), none⟩]) .ret)))))))
theorem at119 {args : List AV} {H : AH} {Q : AV → AH → Prop} (hl : args.length ≤ 105) (h : swp Tryz.prog s119 (fin Tryz.prog [.tmp 4] Q) (env0 args) H) : AC Tryz.prog 119 args H Q :=
  AC.of (pl119) Tryz.func119 rfl (by kernel_rfl) mixed (by kernel_rfl) (by kernel_rfl) rfl hl h
/-! ### function 120: codewright/infoset.column -/
def s120 : SC :=
  .seq (.reg [⟨some 2, .box 27 (.tmp 0), none⟩,
    ⟨some 4, .assign (.const (.slice none 0 0)), none⟩]) (.seq (.reg [⟨some 8, .fieldAddr 27 (.tmp 2) 2, none⟩,
    ⟨some 9, .load 25 (.tmp 8), none⟩,
    ⟨some 10, .call { callee := .builtin .len, args := #[.tmp 9], argTypes := #[25] }, none⟩,
    ⟨some 11, .makeSlice 22 (.tmp 10) (.tmp 10), none⟩,
    ⟨some 5, .assign (.tmp 11), none⟩]) (.seq (.seq (.reg [⟨some 12, .fieldAddr 27 (.tmp 2) 2, none⟩,
    ⟨some 13, .load 25 (.tmp 12), none⟩,
    ⟨some 14, .call { callee := .builtin .len, args := #[.tmp 13], argTypes := #[25] }, none⟩,
    ⟨some 15, .move (.const (.int .i64 0)), none⟩]) (.block 0 (.loop (.seq (.reg [⟨some 16, .binOp .lss 3 (.tmp 15) (.tmp 14) 3, none⟩]) (.seq (.cond (.tmp 16) .skip (.exit 0)) (.seq (.block 1 (.seq (.reg [⟨some 17, .move (.tmp 15), none⟩,
    ⟨some 18, .indexAddr 25 (.tmp 13) (.tmp 15), none⟩,
    ⟨some 19, .load 22 (.tmp 18), none⟩,
    ⟨some 6, .assign (.tmp 17), none⟩,
    ⟨some 7, .assign (.tmp 19), none⟩]) (.reg [⟨some 20, .move (.tmp 5), none⟩,
    ⟨some 21, .move (.tmp 6), none⟩,
    ⟨some 22, .move (.tmp 7), none⟩,
    ⟨some 23, .move (.tmp 1), none⟩,
    ⟨some 24, .indexAddr 22 (.tmp 22) (.tmp 23), none⟩,
    ⟨some 25, .load 3 (.tmp 24), none⟩,
    ⟨some 26, .indexAddr 22 (.tmp 20) (.tmp 21), none⟩,
    ⟨none, .store 3 (.tmp 26) (.tmp 25), none⟩]))) (.reg [⟨some 27, .binOp .add 3 (.tmp 15) (.const (.int .i64 1)) 3, none⟩,
    ⟨some 15, .move (.tmp 27), none⟩]))))))) (.seq (.reg [⟨some 28, .move (.tmp 5), none⟩,
    ⟨some 4, .assign (.tmp 28), none⟩]) .ret)))
theorem at120 {args : List AV} {H : AH} {Q : AV → AH → Prop} (hl : args.length ≤ 29) (h : swp Tryz.prog s120 (fin Tryz.prog [.tmp 4] Q) (env0 args) H) : AC Tryz.prog 120 args H Q :=
  AC.of (fun _ => []) Tryz.func120 rfl (by kernel_rfl) mixed (by kernel_rfl) (by kernel_rfl) rfl hl h
/-! ### function 121: slices.Collect[int] -/
def s121 : SC :=
  .seq (.reg [⟨some 2, .assign (.const (.slice none 0 0)), none⟩]) (.seq (.reg [⟨some 3, .move (.tmp 0), none⟩,
    ⟨some 4, .call { callee := .value (.func 163), args := #[.const (.slice none 0 0), .tmp 3], argTypes := #[22, 97] }, none⟩,
    ⟨some 2, .assign (.tmp 4), none⟩]) .ret)
theorem at121 {args : List AV} {H : AH} {Q : AV → AH → Prop} (hl : args.length ≤ 5) (h : swp Tryz.prog s121 (fin Tryz.prog [.tmp 2] Q) (env0 args) H) : AC Tryz.prog 121 args H Q :=
  AC.of (fun _ => []) Tryz.func121 rfl (by kernel_rfl) mixed (by kernel_rfl) (by kernel_rfl) rfl hl h
/-! ### function 125: codewright/codewrightref04.Order -/
def s125 : SC :=
  .seq (.reg [⟨some 1, .box 24 (.tmp 0), none⟩,
    ⟨some 2, .assign (.const (.int .i64 0)), none⟩]) (.seq (.seq (.reg [⟨some 5, .fieldAddr 24 (.tmp 1) 0, none⟩,
    ⟨some 6, .load 3 (.tmp 5), none⟩,
    ⟨some 7, .binOp .lss 3 (.tmp 6) (.const (.int .i64 2)) 3, none⟩,
    ⟨some 8, .move (.tmp 7), none⟩,
    ⟨some 9, .fieldAddr 24 (.tmp 1) 1, some (8, false)⟩,
    ⟨some 10, .load 3 (.tmp 9), some (8, false)⟩,
    ⟨some 11, .binOp .lss 3 (.tmp 10) (.const (.int .i64 1)) 3, some (8, false)⟩,
    ⟨some 12, .pick (.tmp 8) (.const (.bool true)) (.tmp 11), none⟩,
    ⟨some 13, .move (.tmp 12), none⟩,
    ⟨some 14, .fieldAddr 24 (.tmp 1) 1, some (13, false)⟩,
    ⟨some 15, .load 3 (.tmp 14), some (13, false)⟩,
    ⟨some 16, .binOp .gtr 3 (.tmp 15) (.const (.int .i64 8)) 3, some (13, false)⟩,
    ⟨some 17, .pick (.tmp 13) (.const (.bool true)) (.tmp 16), none⟩]) (.cond (.tmp 17) (.seq (.reg [⟨some 2, .assign (.const (.int .i64 0)), none⟩]) .ret) .skip)) (.seq (.reg [⟨some 3, .assign (.const (.int .i64 1)), none⟩]) (.seq (.seq (.reg [⟨some 4, .assign (.const (.int .i64 0)), none⟩]) (.block 0 (.loop (.seq (.seq (.reg [⟨some 18, .move (.tmp 4), none⟩,
    ⟨some 19, .fieldAddr 24 (.tmp 1) 1, none⟩,
    ⟨some 20, .load 3 (.tmp 19), none⟩,
    ⟨some 21, .binOp .lss 3 (.tmp 18) (.tmp 20) 3, none⟩]) (.cond (.tmp 21) .skip (.exit 0))) (.seq (.block 1 (.seq (.seq (.reg [⟨some 24, .move (.tmp 3), none⟩,
    ⟨some 25, .fieldAddr 24 (.tmp 1) 0, none⟩,
    ⟨some 26, .load 3 (.tmp 25), none⟩,
    ⟨some 27, .binOp .quo 3 (.const (.int .i64 256)) (.tmp 26) 3, none⟩,
    ⟨some 28, .binOp .gtr 3 (.tmp 24) (.tmp 27) 3, none⟩]) (.cond (.tmp 28) (.seq (.reg [⟨some 2, .assign (.const (.int .i64 0)), none⟩]) .ret) .skip)) (.reg [⟨some 29, .move (.tmp 3), none⟩,
    ⟨some 30, .fieldAddr 24 (.tmp 1) 0, none⟩,
    ⟨some 31, .load 3 (.tmp 30), none⟩,
    ⟨some 32, .binOp .mul 3 (.tmp 29) (.tmp 31) 3, none⟩,
    ⟨some 3, .assign (.tmp 32), none⟩]))) (.reg [⟨some 22, .move (.tmp 4), none⟩,
    ⟨some 23, .binOp .add 3 (.tmp 22) (.const (.int .i64 1)) 3, none⟩,
    ⟨some 4, .assign (.tmp 23), none⟩])))))) (.seq (.reg [⟨some 33, .move (.tmp 3), none⟩,
    ⟨some 2, .assign (.tmp 33), none⟩]) .ret))))
theorem at125 {args : List AV} {H : AH} {Q : AV → AH → Prop} (hl : args.length ≤ 34) (h : swp Tryz.prog s125 (fin Tryz.prog [.tmp 2] Q) (env0 args) H) : AC Tryz.prog 125 args H Q :=
  AC.of (fun _ => []) Tryz.func125 rfl (by kernel_rfl) mixed (by kernel_rfl) (by kernel_rfl) rfl hl h
/-! ### function 126: codewright/codewrightref04.prime -/
def s126 : SC :=
  .seq (.reg [⟨some 2, .assign (.const (.bool false)), none⟩]) (.seq (.seq (.reg [⟨some 3, .assign (.const (.int .i64 2)), none⟩]) (.block 0 (.loop (.seq (.seq (.reg [⟨some 4, .move (.tmp 3), none⟩,
    ⟨some 5, .move (.tmp 0), none⟩,
    ⟨some 6, .binOp .lss 3 (.tmp 4) (.tmp 5) 3, none⟩]) (.cond (.tmp 6) .skip (.exit 0))) (.seq (.block 1 (.seq (.reg [⟨some 9, .move (.tmp 0), none⟩,
    ⟨some 10, .move (.tmp 3), none⟩,
    ⟨some 11, .binOp .rem 3 (.tmp 9) (.tmp 10) 3, none⟩,
    ⟨some 12, .binOp .eql 3 (.tmp 11) (.const (.int .i64 0)) 3, none⟩]) (.cond (.tmp 12) (.seq (.reg [⟨some 2, .assign (.const (.bool false)), none⟩]) .ret) .skip))) (.reg [⟨some 7, .move (.tmp 3), none⟩,
    ⟨some 8, .binOp .add 3 (.tmp 7) (.const (.int .i64 1)) 3, none⟩,
    ⟨some 3, .assign (.tmp 8), none⟩])))))) (.seq (.reg [⟨some 2, .assign (.const (.bool true)), none⟩]) .ret))
theorem at126 {args : List AV} {H : AH} {Q : AV → AH → Prop} (hl : args.length ≤ 13) (h : swp Tryz.prog s126 (fin Tryz.prog [.tmp 2] Q) (env0 args) H) : AC Tryz.prog 126 args H Q :=
  AC.of (fun _ => []) Tryz.func126 rfl (by kernel_rfl) mixed (by kernel_rfl) (by kernel_rfl) rfl hl h
/-! ### function 127: codewright/codewrightref04.irreducible -/
def s127 : SC :=
  .seq (.reg [⟨some 4, .assign (.const (.bool false)), none⟩]) (.seq (.reg [⟨some 5, .assign (.const (.int .i64 1)), none⟩]) (.seq (.seq (.reg [⟨some 6, .assign (.const (.int .i64 1)), none⟩]) (.block 0 (.loop (.seq (.seq (.reg [⟨some 8, .move (.tmp 6), none⟩,
    ⟨some 9, .binOp .mul 3 (.const (.int .i64 2)) (.tmp 8) 3, none⟩,
    ⟨some 10, .move (.tmp 0), none⟩,
    ⟨some 11, .call { callee := .builtin .len, args := #[.tmp 10], argTypes := #[22] }, none⟩,
    ⟨some 12, .binOp .leq 3 (.tmp 9) (.tmp 11) 3, none⟩]) (.cond (.tmp 12) .skip (.exit 0))) (.seq (.block 1 (.seq (.reg [⟨some 15, .move (.tmp 5), none⟩,
    ⟨some 16, .move (.tmp 1), none⟩,
    ⟨some 17, .binOp .mul 3 (.tmp 15) (.tmp 16) 3, none⟩,
    ⟨some 5, .assign (.tmp 17), none⟩]) (.seq (.reg [⟨some 7, .assign (.const (.int .i64 0)), none⟩]) (.block 2 (.loop (.seq (.seq (.reg [⟨some 18, .move (.tmp 7), none⟩,
    ⟨some 19, .move (.tmp 5), none⟩,
    ⟨some 20, .binOp .lss 3 (.tmp 18) (.tmp 19) 3, none⟩]) (.cond (.tmp 20) .skip (.exit 2))) (.seq (.block 3 (.seq (.reg [⟨some 23, .move (.tmp 7), none⟩,
    ⟨some 24, .move (.tmp 1), none⟩,
    ⟨some 25, .move (.tmp 6), none⟩,
    ⟨some 26, .call { callee := .value (.func 176), args := #[.tmp 23, .tmp 24, .tmp 25], argTypes := #[3, 3, 3] }, none⟩,
    ⟨some 27, .move (.tmp 0), none⟩,
    ⟨some 28, .move (.tmp 1), none⟩,
    ⟨some 29, .call { callee := .value (.func 175), args := #[.tmp 26, .tmp 27, .tmp 28], argTypes := #[22, 22, 3] }, none⟩]) (.cond (.tmp 29) (.seq (.reg [⟨some 4, .assign (.const (.bool false)), none⟩]) .ret) .skip))) (.reg [⟨some 21, .move (.tmp 7), none⟩,
    ⟨some 22, .binOp .add 3 (.tmp 21) (.const (.int .i64 1)) 3, none⟩,
    ⟨some 7, .assign (.tmp 22), none⟩])))))))) (.reg [⟨some 13, .move (.tmp 6), none⟩,
    ⟨some 14, .binOp .add 3 (.tmp 13) (.const (.int .i64 1)) 3, none⟩,
    ⟨some 6, .assign (.tmp 14), none⟩])))))) (.seq (.reg [⟨some 4, .assign (.const (.bool true)), none⟩]) .ret)))
theorem at127 {args : List AV} {H : AH} {Q : AV → AH → Prop} (hl : args.length ≤ 30) (h : swp Tryz.prog s127 (fin Tryz.prog [.tmp 4] Q) (env0 args) H) : AC Tryz.prog 127 args H Q :=
  AC.of (fun _ => []) Tryz.func127 rfl (by kernel_rfl) mixed (by kernel_rfl) (by kernel_rfl) rfl hl h
/-! ### function 128: codewright/codewrightref09.Check -/
def pl128 : Nat → Plan
  | 9 => [(0, []), (1, []), (2, []), (3, []), (4, []), (5, []), (6, []), (7, []), (8, [])]
  | 14 => [(0, []), (1, []), (2, []), (3, []), (4, []), (5, []), (6, []), (7, [])]
  | _ => []
def s128 : SC :=
  .seq (.reg [⟨some 2, .box 24 (.tmp 0), none⟩,
    ⟨some 3, .box 62 (.tmp 1), none⟩,
    ⟨some 4, .assign (.const (.int .i64 0)), none⟩]) (.seq (.reg [⟨some 8, .load 24 (.tmp 2), none⟩,
    ⟨some 9, .call { callee := .value (.func 87), args := #[.tmp 8], argTypes := #[24] }, none⟩,
    ⟨some 5, .assign (.tmp 9), none⟩]) (.seq (.seq (.reg [⟨some 10, .move (.tmp 5), none⟩,
    ⟨some 11, .binOp .neq 28 (.tmp 10) (.const (.int .i64 0)) 28, none⟩]) (.cond (.tmp 11) (.seq (.reg [⟨some 12, .move (.tmp 5), none⟩,
    ⟨some 4, .assign (.tmp 12), none⟩]) .ret) .skip)) (.seq (.seq (.reg [⟨some 13, .fieldAddr 62 (.tmp 3) 0, none⟩,
    ⟨some 14, .load 3 (.tmp 13), none⟩,
    ⟨some 15, .binOp .lss 3 (.tmp 14) (.const (.int .i64 0)) 3, none⟩,
    ⟨some 16, .move (.tmp 15), none⟩,
    ⟨some 17, .fieldAddr 62 (.tmp 3) 0, some (16, false)⟩,
    ⟨some 18, .load 3 (.tmp 17), some (16, false)⟩,
    ⟨some 19, .binOp .gtr 3 (.tmp 18) (.const (.int .i64 256)) 3, some (16, false)⟩,
    ⟨some 20, .pick (.tmp 16) (.const (.bool true)) (.tmp 19), none⟩,
    ⟨some 21, .move (.tmp 20), none⟩,
    ⟨some 22, .fieldAddr 62 (.tmp 3) 1, some (21, false)⟩,
    ⟨some 23, .load 25 (.tmp 22), some (21, false)⟩,
    ⟨some 24, .call { callee := .builtin .len, args := #[.tmp 23], argTypes := #[25] }, some (21, false)⟩,
    ⟨some 25, .binOp .gtr 3 (.tmp 24) (.const (.int .i64 256)) 3, some (21, false)⟩,
    ⟨some 26, .pick (.tmp 21) (.const (.bool true)) (.tmp 25), none⟩]) (.cond (.tmp 26) (.seq (.reg [⟨some 4, .assign (.const (.int .i64 3)), none⟩]) .ret) .skip)) (.seq (.seq (.reg [⟨some 6, .assign (.const (.int .i64 0)), none⟩]) (.block 0 (.loop (.seq (.seq (.reg [⟨some 27, .move (.tmp 6), none⟩,
    ⟨some 28, .fieldAddr 62 (.tmp 3) 1, none⟩,
    ⟨some 29, .load 25 (.tmp 28), none⟩,
    ⟨some 30, .call { callee := .builtin .len, args := #[.tmp 29], argTypes := #[25] }, none⟩,
    ⟨some 31, .binOp .lss 3 (.tmp 27) (.tmp 30) 3, none⟩]) (.cond (.tmp 31) .skip (.exit 0))) (.seq (.block 1 (.seq (.draw [(0, [], ⟨some 34, .fieldAddr 62 (.tmp 3) 1, none⟩),
    (1, [], ⟨some 35, .load 25 (.tmp 34), none⟩),
    (2, [], ⟨some 36, .move (.tmp 6), none⟩),
    (3, [], ⟨some 37, .indexAddr 25 (.tmp 35) (.tmp 36), none⟩),
    (4, [], ⟨some 38, .load 22 (.tmp 37), none⟩),
    (5, [], ⟨some 39, .call { callee := .builtin .len, args := #[.tmp 38], argTypes := #[22] }, none⟩),
    (6, [], ⟨some 40, .fieldAddr 62 (.tmp 3) 0, none⟩),
    (7, [], ⟨some 41, .load 3 (.tmp 40), none⟩),
    (8, [], ⟨some 42, .binOp .neq 3 (.tmp 39) (.tmp 41) 3, none⟩)]) (.cond (.tmp 42) (.seq (.reg [⟨some 4, .assign (.const (.int .i64 3)), none⟩]) .ret) .skip))) (.reg [⟨some 32, .move (.tmp 6), none⟩,
    ⟨some 33, .binOp .add 3 (.tmp 32) (.const (.int .i64 1)) 3, none⟩,
    ⟨some 6, .assign (.tmp 33), none⟩])))))) (.seq (.seq (.reg [⟨some 7, .assign (.const (.int .i64 0)), none⟩]) (.block 2 (.loop (.seq (.seq (.reg [⟨some 43, .move (.tmp 7), none⟩,
    ⟨some 44, .fieldAddr 62 (.tmp 3) 1, none⟩,
    ⟨some 45, .load 25 (.tmp 44), none⟩,
    ⟨some 46, .call { callee := .builtin .len, args := #[.tmp 45], argTypes := #[25] }, none⟩,
    ⟨some 47, .binOp .lss 3 (.tmp 43) (.tmp 46) 3, none⟩]) (.cond (.tmp 47) .skip (.exit 2))) (.seq (.block 3 (.seq (.draw [(0, [], ⟨some 50, .load 24 (.tmp 2), none⟩),
    (1, [], ⟨some 51, .fieldAddr 62 (.tmp 3) 1, none⟩),
    (2, [], ⟨some 52, .load 25 (.tmp 51), none⟩),
    (3, [], ⟨some 53, .move (.tmp 7), none⟩),
    (4, [], ⟨some 54, .indexAddr 25 (.tmp 52) (.tmp 53), none⟩),
    (5, [], ⟨some 55, .load 22 (.tmp 54), none⟩),
    (6, [], ⟨some 56, .call { callee := .value (.func 99), args := #[.tmp 50, .tmp 55], argTypes := #[24, 22] }, none⟩),
    (7, [], ⟨some 5, .assign (.tmp 56), none⟩)]) (.seq (.reg [⟨some 57, .move (.tmp 5), none⟩,
    ⟨some 58, .binOp .neq 28 (.tmp 57) (.const (.int .i64 0)) 28, none⟩]) (.cond (.tmp 58) (.seq (.reg [⟨some 59, .move (.tmp 5), none⟩,
    ⟨some 4, .assign (.tmp 59), none⟩]) .ret) .skip)))) (.reg [⟨some 48, .move (.tmp 7), none⟩,
    ⟨some 49, .binOp .add 3 (.tmp 48) (.const (.int .i64 1)) 3, none⟩,
    ⟨some 7, .assign (.tmp 49), none⟩])))))) (.seq (.reg [⟨some 4, .assign (.const (.int .i64 0)), none⟩]) .ret))))))
theorem at128 {args : List AV} {H : AH} {Q : AV → AH → Prop} (hl : args.length ≤ 60) (h : swp Tryz.prog s128 (fin Tryz.prog [.tmp 4] Q) (env0 args) H) : AC Tryz.prog 128 args H Q :=
  AC.of (pl128) Tryz.func128 rfl (by kernel_rfl) mixed (by kernel_rfl) (by kernel_rfl) rfl hl h
/-! ### function 130: codewright/matrix.eliminate -/
def pl130 : Nat → Plan
  | 15 => [(0, []), (1, []), (2, []), (3, []), (4, []), (5, []), (6, []), (7, []), (8, []), (9, []), (10, [])]
  | 16 => [(0, []), (1, []), (2, []), (3, []), (4, []), (5, []), (6, []), (7, []), (8, []), (9, []), (10, []), (11, []), (12, []), (13, []), (14, [])]
  | _ => []
def s130 : SC :=
  .seq (.reg [⟨some 4, .box 89 (.tmp 0), none⟩,
    ⟨some 5, .box 25 (.tmp 1), none⟩,
    ⟨some 7, .box 25 (.tmp 3), none⟩,
    ⟨some 8, .assign (.const (.slice none 0 0)), none⟩,
    ⟨some 9, .assign (.const (.int .i64 0)), none⟩]) (.seq (.reg [⟨some 10, .assign (.const (.int .i64 1)), none⟩]) (.seq (.reg [⟨some 20, .makeFunc (.func 177) #[] #[.tmp 5, .tmp 7], none⟩,
    ⟨some 11, .assign (.tmp 20), none⟩]) (.seq (.reg [⟨some 12, .assign (.const (.slice none 0 0)), none⟩]) (.seq (.seq (.reg [⟨some 13, .assign (.const (.int .i64 0)), none⟩]) (.block 0 (.loop (.seq (.seq (.reg [⟨some 21, .move (.tmp 13), none⟩,
    ⟨some 22, .move (.tmp 2), none⟩,
    ⟨some 23, .binOp .lss 3 (.tmp 21) (.tmp 22) 3, none⟩,
    ⟨some 24, .move (.tmp 23), none⟩,
    ⟨some 25, .move (.tmp 12), some (24, true)⟩,
    ⟨some 26, .call { callee := .builtin .len, args := #[.tmp 25], argTypes := #[22] }, some (24, true)⟩,
    ⟨some 27, .load 25 (.tmp 5), some (24, true)⟩,
    ⟨some 28, .call { callee := .builtin .len, args := #[.tmp 27], argTypes := #[25] }, some (24, true)⟩,
    ⟨some 29, .binOp .lss 3 (.tmp 26) (.tmp 28) 3, some (24, true)⟩,
    ⟨some 30, .pick (.tmp 24) (.tmp 29) (.const (.bool false)), none⟩]) (.cond (.tmp 30) .skip (.exit 0))) (.seq (.block 1 (.seq (.reg [⟨some 33, .move (.tmp 12), none⟩,
    ⟨some 34, .call { callee := .builtin .len, args := #[.tmp 33], argTypes := #[22] }, none⟩,
    ⟨some 14, .alloc 3, none⟩,
    ⟨none, .store 3 (.tmp 14) (.tmp 34), none⟩]) (.seq (.reg [⟨some 35, .load 3 (.tmp 14), none⟩,
    ⟨some 15, .alloc 3, none⟩,
    ⟨none, .store 3 (.tmp 15) (.tmp 35), none⟩]) (.seq (.block 2 (.loop (.seq (.seq (.reg [⟨some 36, .load 3 (.tmp 15), none⟩,
    ⟨some 37, .load 25 (.tmp 5), none⟩,
    ⟨some 38, .call { callee := .builtin .len, args := #[.tmp 37], argTypes := #[25] }, none⟩,
    ⟨some 39, .binOp .lss 3 (.tmp 36) (.tmp 38) 3, none⟩,
    ⟨some 40, .move (.tmp 39), none⟩,
    ⟨some 41, .load 25 (.tmp 5), some (40, true)⟩,
    ⟨some 42, .load 3 (.tmp 15), some (40, true)⟩,
    ⟨some 43, .indexAddr 25 (.tmp 41) (.tmp 42), some (40, true)⟩,
    ⟨some 44, .load 22 (.tmp 43), some (40, true)⟩,
    ⟨some 45, .move (.tmp 13), some (40, true)⟩,
    ⟨some 46, .indexAddr 22 (.tmp 44) (.tmp 45), some (40, true)⟩,
    ⟨some 47, .load 3 (.tmp 46), some (40, true)⟩,
    ⟨some 48, .binOp .eql 3 (.tmp 47) (.const (.int .i64 0)) 3, some (40, true)⟩,
    ⟨some 49, .pick (.tmp 40) (.tmp 48) (.const (.bool false)), none⟩]) (.cond (.tmp 49) .skip (.exit 2))) (.block 3 (.reg [⟨some 50, .load 3 (.tmp 15), none⟩,
    ⟨some 51, .binOp .add 3 (.tmp 50) (.const (.int .i64 1)) 3, none⟩,
    ⟨none, .store 3 (.tmp 15) (.tmp 51), none⟩]))))) (.seq (.seq (.reg [⟨some 52, .load 3 (.tmp 15), none⟩,
    ⟨some 53, .load 25 (.tmp 5), none⟩,
    ⟨some 54, .call { callee := .builtin .len, args := #[.tmp 53], argTypes := #[25] }, none⟩,
    ⟨some 55, .binOp .eql 3 (.tmp 52) (.tmp 54) 3, none⟩]) (.cond (.tmp 55) (.exit 1) .skip)) (.seq (.seq (.reg [⟨some 56, .load 3 (.tmp 15), none⟩,
    ⟨some 57, .load 3 (.tmp 14), none⟩,
    ⟨some 58, .binOp .neq 3 (.tmp 56) (.tmp 57) 3, none⟩]) (.cond (.tmp 58) (.seq (.reg [⟨some 59, .move (.tmp 11), none⟩,
    ⟨some 60, .makeFunc (.func 178) #[] #[.tmp 15, .tmp 14], none⟩,
    ⟨some 61, .call { callee := .value (.tmp 59), args := #[.tmp 60], argTypes := #[182] }, none⟩]) (.reg [⟨some 62, .load 89 (.tmp 4), none⟩,
    ⟨some 63, .move (.tmp 10), none⟩,
    ⟨some 64, .call { callee := .value (.func 138), args := #[.tmp 62, .tmp 63], argTypes := #[89, 3] }, none⟩,
    ⟨some 10, .assign (.tmp 64), none⟩])) .skip)) (.seq (.draw [(0, [], ⟨some 65, .load 89 (.tmp 4), none⟩),
    (1, [], ⟨some 66, .move (.tmp 10), none⟩),
    (2, [], ⟨some 67, .load 25 (.tmp 5), none⟩),
    (3, [], ⟨some 68, .load 3 (.tmp 14), none⟩),
    (4, [], ⟨some 69, .indexAddr 25 (.tmp 67) (.tmp 68), none⟩),
    (5, [], ⟨some 70, .load 22 (.tmp 69), none⟩),
    (6, [], ⟨some 71, .move (.tmp 13), none⟩),
    (7, [], ⟨some 72, .indexAddr 22 (.tmp 70) (.tmp 71), none⟩),
    (8, [], ⟨some 73, .load 3 (.tmp 72), none⟩),
    (9, [], ⟨some 74, .call { callee := .value (.func 158), args := #[.tmp 65, .tmp 66, .tmp 73], argTypes := #[89, 3, 3] }, none⟩),
    (10, [], ⟨some 10, .assign (.tmp 74), none⟩)]) (.seq (.seq (.draw [(0, [], ⟨some 76, .load 89 (.tmp 4), none⟩),
    (1, [], ⟨some 77, .load 25 (.tmp 5), none⟩),
    (2, [], ⟨some 78, .load 3 (.tmp 14), none⟩),
    (3, [], ⟨some 79, .indexAddr 25 (.tmp 77) (.tmp 78), none⟩),
    (4, [], ⟨some 80, .load 22 (.tmp 79), none⟩),
    (5, [], ⟨some 81, .move (.tmp 13), none⟩),
    (6, [], ⟨some 82, .indexAddr 22 (.tmp 80) (.tmp 81), none⟩),
    (7, [], ⟨some 83, .load 3 (.tmp 82), none⟩),
    (8, [], ⟨some 84, .call { callee := .value (.func 161), args := #[.tmp 76, .tmp 83], argTypes := #[89, 3] }, none⟩),
    (9, [], ⟨some 75, .move (.tmp 84), none⟩),
    (10, [], ⟨some 85, .extract (.tmp 75) 0, none⟩),
    (11, [], ⟨some 86, .extract (.tmp 75) 1, none⟩),
    (12, [], ⟨some 16, .alloc 3, none⟩),
    (13, [], ⟨none, .store 3 (.tmp 16) (.tmp 85), none⟩),
    (14, [], ⟨some 17, .assign (.tmp 86), none⟩)]) (.seq (.reg [⟨some 87, .move (.tmp 17), none⟩,
    ⟨some 88, .binOp .eql 28 (.tmp 87) (.const (.int .i64 0)) 28, none⟩,
    ⟨some 89, .move (.tmp 88), none⟩,
    ⟨some 90, .load 3 (.tmp 16), some (89, true)⟩,
    ⟨some 91, .binOp .neq 3 (.tmp 90) (.const (.int .i64 1)) 3, some (89, true)⟩,
    ⟨some 92, .pick (.tmp 89) (.tmp 91) (.const (.bool false)), none⟩]) (.cond (.tmp 92) (.reg [⟨some 93, .move (.tmp 11), none⟩,
    ⟨some 94, .makeFunc (.func 179) #[] #[.tmp 4, .tmp 16, .tmp 14], none⟩,
    ⟨some 95, .call { callee := .value (.tmp 93), args := #[.tmp 94], argTypes := #[182] }, none⟩]) .skip))) (.seq (.seq (.reg [⟨some 96, .load 25 (.tmp 5), none⟩,
    ⟨some 97, .call { callee := .builtin .len, args := #[.tmp 96], argTypes := #[25] }, none⟩,
    ⟨some 98, .move (.const (.int .i64 0)), none⟩]) (.block 4 (.loop (.seq (.reg [⟨some 99, .binOp .lss 3 (.tmp 98) (.tmp 97) 3, none⟩]) (.seq (.cond (.tmp 99) .skip (.exit 4)) (.seq (.block 5 (.seq (.reg [⟨some 100, .move (.tmp 98), none⟩,
    ⟨some 18, .alloc 3, none⟩,
    ⟨none, .store 3 (.tmp 18) (.tmp 100), none⟩]) (.seq (.reg [⟨some 101, .load 25 (.tmp 5), none⟩,
    ⟨some 102, .load 3 (.tmp 18), none⟩,
    ⟨some 103, .indexAddr 25 (.tmp 101) (.tmp 102), none⟩,
    ⟨some 104, .load 22 (.tmp 103), none⟩,
    ⟨some 105, .move (.tmp 13), none⟩,
    ⟨some 106, .indexAddr 22 (.tmp 104) (.tmp 105), none⟩,
    ⟨some 107, .load 3 (.tmp 106), none⟩,
    ⟨some 19, .alloc 3, none⟩,
    ⟨none, .store 3 (.tmp 19) (.tmp 107), none⟩]) (.seq (.reg [⟨some 108, .load 3 (.tmp 18), none⟩,
    ⟨some 109, .load 3 (.tmp 14), none⟩,
    ⟨some 110, .binOp .neq 3 (.tmp 108) (.tmp 109) 3, none⟩,
    ⟨some 111, .move (.tmp 110), none⟩,
    ⟨some 112, .load 3 (.tmp 19), some (111, true)⟩,
    ⟨some 113, .binOp .neq 3 (.tmp 112) (.const (.int .i64 0)) 3, some (111, true)⟩,
    ⟨some 114, .pick (.tmp 111) (.tmp 113) (.const (.bool false)), none⟩]) (.cond (.tmp 114) (.reg [⟨some 115, .move (.tmp 11), none⟩,
    ⟨some 116, .makeFunc (.func 180) #[] #[.tmp 4, .tmp 18, .tmp 19, .tmp 14], none⟩,
    ⟨some 117, .call { callee := .value (.tmp 115), args := #[.tmp 116], argTypes := #[182] }, none⟩]) .skip))))) (.reg [⟨some 118, .binOp .add 3 (.tmp 98) (.const (.int .i64 1)) 3, none⟩,
    ⟨some 98, .move (.tmp 118), none⟩]))))))) (.reg [⟨some 119, .move (.tmp 12), none⟩,
    ⟨some 120, .move (.tmp 13), none⟩,
    ⟨some 121, .buildSlice 22 1 #[(0, .tmp 120)], none⟩,
    ⟨some 122, .call { callee := .builtin .append, args := #[.tmp 119, .tmp 121], argTypes := #[22, 22] }, none⟩,
    ⟨some 12, .assign (.tmp 122), none⟩])))))))))) (.reg [⟨some 31, .move (.tmp 13), none⟩,
    ⟨some 32, .binOp .add 3 (.tmp 31) (.const (.int .i64 1)) 3, none⟩,
    ⟨some 13, .assign (.tmp 32), none⟩])))))) (.seq (.reg [⟨some 123, .move (.tmp 12), none⟩,
    ⟨some 124, .move (.tmp 10), none⟩,
    ⟨some 8, .assign (.tmp 123), none⟩,
    ⟨some 9, .assign (.tmp 124), none⟩]) .ret)))))
theorem at130 {args : List AV} {H : AH} {Q : AV → AH → Prop} (hl : args.length ≤ 125) (h : swp Tryz.prog s130 (fin Tryz.prog [.tmp 8, .tmp 9] Q) (env0 args) H) : AC Tryz.prog 130 args H Q :=
  AC.of (pl130) Tryz.func130 rfl (by kernel_rfl) mixed (by kernel_rfl) (by kernel_rfl) rfl hl h
/-! ### function 131: codewright/matrix.clone -/
def s131 : SC :=
  .seq (.reg [⟨some 2, .assign (.const (.slice none 0 0)), none⟩]) (.seq (.reg [⟨some 6, .move (.tmp 0), none⟩,
    ⟨some 7, .call { callee := .builtin .len, args := #[.tmp 6], argTypes := #[25] }, none⟩,
    ⟨some 8, .makeSlice 25 (.tmp 7) (.tmp 7), none⟩,
    ⟨some 3, .assign (.tmp 8), none⟩]) (.seq (.seq (.reg [⟨some 9, .move (.tmp 0), none⟩,
    ⟨some 10, .call { callee := .builtin .len, args := #[.tmp 9], argTypes := #[25] }, none⟩,
    ⟨some 11, .move (.const (.int .i64 0)), none⟩]) (.block 0 (.loop (.seq (.reg [⟨some 12, .binOp .lss 3 (.tmp 11) (.tmp 10) 3, none⟩]) (.seq (.cond (.tmp 12) .skip (.exit 0)) (.seq (.block 1 (.seq (.reg [⟨some 13, .move (.tmp 11), none⟩,
    ⟨some 14, .indexAddr 25 (.tmp 9) (.tmp 11), none⟩,
    ⟨some 15, .load 22 (.tmp 14), none⟩,
    ⟨some 4, .assign (.tmp 13), none⟩,
    ⟨some 5, .assign (.tmp 15), none⟩]) (.reg [⟨some 16, .move (.tmp 3), none⟩,
    ⟨some 17, .move (.tmp 4), none⟩,
    ⟨some 18, .move (.tmp 5), none⟩,
    ⟨some 19, .call { callee := .value (.func 85), args := #[.tmp 18], argTypes := #[22] }, none⟩,
    ⟨some 20, .indexAddr 25 (.tmp 16) (.tmp 17), none⟩,
    ⟨none, .store 22 (.tmp 20) (.tmp 19), none⟩]))) (.reg [⟨some 21, .binOp .add 3 (.tmp 11) (.const (.int .i64 1)) 3, none⟩,
    ⟨some 11, .move (.tmp 21), none⟩]))))))) (.seq (.reg [⟨some 22, .move (.tmp 3), none⟩,
    ⟨some 2, .assign (.tmp 22), none⟩]) .ret)))
theorem at131 {args : List AV} {H : AH} {Q : AV → AH → Prop} (hl : args.length ≤ 23) (h : swp Tryz.prog s131 (fin Tryz.prog [.tmp 2] Q) (env0 args) H) : AC Tryz.prog 131 args H Q :=
  AC.of (fun _ => []) Tryz.func131 rfl (by kernel_rfl) mixed (by kernel_rfl) (by kernel_rfl) rfl hl h
/-! ### function 136: codewright/matrix.canon -/
def s136 : SC :=
  .seq (.reg [⟨some 6, .assign (.const (.slice none 0 0)), none⟩,
    ⟨some 7, .assign (.const (.slice none 0 0)), none⟩]) (.seq (.reg [⟨some 11, .move (.tmp 1), none⟩,
    ⟨some 12, .call { callee := .value (.func 131), args := #[.tmp 11], argTypes := #[25] }, none⟩,
    ⟨some 8, .assign (.tmp 12), none⟩]) (.seq (.reg [⟨some 14, .move (.tmp 0), none⟩,
    ⟨some 15, .move (.tmp 8), none⟩,
    ⟨some 16, .move (.tmp 2), none⟩,
    ⟨some 17, .call { callee := .value (.func 130), args := #[.tmp 14, .tmp 15, .tmp 16, .const (.slice none 0 0)], argTypes := #[89, 25, 3, 25] }, none⟩,
    ⟨some 13, .move (.tmp 17), none⟩,
    ⟨some 18, .extract (.tmp 13) 0, none⟩,
    ⟨some 19, .extract (.tmp 13) 1, none⟩,
    ⟨some 9, .assign (.tmp 18), none⟩,
    ⟨some 10, .assign (.tmp 19), none⟩]) (.seq (.reg [⟨some 20, .move (.tmp 8), none⟩,
    ⟨some 21, .move (.tmp 9), none⟩,
    ⟨some 22, .call { callee := .builtin .len, args := #[.tmp 21], argTypes := #[22] }, none⟩,
    ⟨some 23, .move (.tmp 9), none⟩,
    ⟨some 24, .call { callee := .builtin .len, args := #[.tmp 23], argTypes := #[22] }, none⟩,
    ⟨some 25, .slice 25 (.tmp 20) none (some (.tmp 22)) (some (.tmp 24)), none⟩,
    ⟨some 26, .move (.tmp 9), none⟩,
    ⟨some 6, .assign (.tmp 25), none⟩,
    ⟨some 7, .assign (.tmp 26), none⟩]) .ret)))
theorem at136 {args : List AV} {H : AH} {Q : AV → AH → Prop} (hl : args.length ≤ 27) (h : swp Tryz.prog s136 (fin Tryz.prog [.tmp 6, .tmp 7] Q) (env0 args) H) : AC Tryz.prog 136 args H Q :=
  AC.of (fun _ => []) Tryz.func136 rfl (by kernel_rfl) mixed (by kernel_rfl) (by kernel_rfl) rfl hl h
/-! ### function 137: codewright/code.own -/
def s137 : SC :=
  .seq (.reg [⟨some 1, .box 24 (.tmp 0), none⟩,
    ⟨some 2, .alloc 24, none⟩]) (.seq (.reg [⟨some 3, .fieldAddr 24 (.tmp 1) 2, none⟩,
    ⟨some 4, .load 22 (.tmp 3), none⟩,
    ⟨some 5, .call { callee := .value (.func 85), args := #[.tmp 4], argTypes := #[22] }, none⟩,
    ⟨some 6, .fieldAddr 24 (.tmp 1) 2, none⟩,
    ⟨none, .store 22 (.tmp 6) (.tmp 5), none⟩]) (.seq (.reg [⟨some 7, .load 24 (.tmp 1), none⟩,
    ⟨none, .store 24 (.tmp 2) (.tmp 7), none⟩]) .ret))
theorem at137 {args : List AV} {H : AH} {Q : AV → AH → Prop} (hl : args.length ≤ 8) (h : swp Tryz.prog s137 (fin Tryz.prog [.cell 2 24] Q) (env0 args) H) : AC Tryz.prog 137 args H Q :=
  AC.of (fun _ => []) Tryz.func137 rfl (by kernel_rfl) mixed (by kernel_rfl) (by kernel_rfl) rfl hl h
/-! ### function 138: (*codewright/field.GF).Neg -/
def pl138 : Nat → Plan
  | 4 => [(0, []), (1, []), (2, []), (3, []), (4, []), (5, []), (6, []), (7, []), (8, []), (9, []), (10, []), (11, []), (12, []), (13, []), (14, []), (15, []), (16, []), (17, []), (18, []), (19, []), (20, []), (21, []), (22, []), (23, [])]
  | _ => []
def s138 : SC :=
  .seq (.reg [⟨some 4, .assign (.const (.int .i64 0)), none⟩]) (.seq (.reg [⟨some 7, .move (.tmp 0), none⟩,
    ⟨some 8, .move (.tmp 1), none⟩,
    ⟨some 9, .call { callee := .value (.func 182), args := #[.tmp 7, .tmp 8], argTypes := #[89, 3] }, none⟩,
    ⟨some 1, .assign (.tmp 9), none⟩]) (.seq (.reg [⟨some 5, .assign (.const (.int .i64 0)), none⟩,
    ⟨some 6, .assign (.const (.int .i64 1)), none⟩]) (.seq (.block 0 (.loop (.seq (.seq (.reg [⟨some 10, .move (.tmp 1), none⟩,
    ⟨some 11, .binOp .gtr 3 (.tmp 10) (.const (.int .i64 0)) 3, none⟩]) (.cond (.tmp 11) .skip (.exit 0))) (.block 1 (.seq (.draw [(0, [], ⟨some 12, .move (.tmp 5), none⟩),
    (1, [], ⟨some 13, .move (.tmp 0), none⟩),
    (2, [], ⟨some 14, .nilCheck (.tmp 13), none⟩),
    (3, [], ⟨some 15, .fieldAddr 164 (.tmp 14) 0, none⟩),
    (4, [], ⟨some 16, .fieldAddr 24 (.tmp 15) 0, none⟩),
    (5, [], ⟨some 17, .load 3 (.tmp 16), none⟩),
    (6, [], ⟨some 18, .move (.tmp 1), none⟩),
    (7, [], ⟨some 19, .move (.tmp 0), none⟩),
    (8, [], ⟨some 20, .nilCheck (.tmp 19), none⟩),
    (9, [], ⟨some 21, .fieldAddr 164 (.tmp 20) 0, none⟩),
    (10, [], ⟨some 22, .fieldAddr 24 (.tmp 21) 0, none⟩),
    (11, [], ⟨some 23, .load 3 (.tmp 22), none⟩),
    (12, [], ⟨some 24, .binOp .rem 3 (.tmp 18) (.tmp 23) 3, none⟩),
    (13, [], ⟨some 25, .binOp .sub 3 (.tmp 17) (.tmp 24) 3, none⟩),
    (14, [], ⟨some 26, .move (.tmp 0), none⟩),
    (15, [], ⟨some 27, .nilCheck (.tmp 26), none⟩),
    (16, [], ⟨some 28, .fieldAddr 164 (.tmp 27) 0, none⟩),
    (17, [], ⟨some 29, .fieldAddr 24 (.tmp 28) 0, none⟩),
    (18, [], ⟨some 30, .load 3 (.tmp 29), none⟩),
    (19, [], ⟨some 31, .binOp .rem 3 (.tmp 25) (.tmp 30) 3, none⟩),
    (20, [], ⟨some 32, .move (.tmp 6), none⟩),
    (21, [], ⟨some 33, .binOp .mul 3 (.tmp 31) (.tmp 32) 3, none⟩),
    (22, [], ⟨some 34, .binOp .add 3 (.tmp 12) (.tmp 33) 3, none⟩),
    (23, [], ⟨some 5, .assign (.tmp 34), none⟩)]) (.seq (.reg [⟨some 35, .move (.tmp 6), none⟩,
    ⟨some 36, .move (.tmp 0), none⟩,
    ⟨some 37, .nilCheck (.tmp 36), none⟩,
    ⟨some 38, .fieldAddr 164 (.tmp 37) 0, none⟩,
    ⟨some 39, .fieldAddr 24 (.tmp 38) 0, none⟩,
    ⟨some 40, .load 3 (.tmp 39), none⟩,
    ⟨some 41, .binOp .mul 3 (.tmp 35) (.tmp 40) 3, none⟩,
    ⟨some 6, .assign (.tmp 41), none⟩]) (.reg [⟨some 42, .move (.tmp 1), none⟩,
    ⟨some 43, .move (.tmp 0), none⟩,
    ⟨some 44, .nilCheck (.tmp 43), none⟩,
    ⟨some 45, .fieldAddr 164 (.tmp 44) 0, none⟩,
    ⟨some 46, .fieldAddr 24 (.tmp 45) 0, none⟩,
    ⟨some 47, .load 3 (.tmp 46), none⟩,
    ⟨some 48, .binOp .quo 3 (.tmp 42) (.tmp 47) 3, none⟩,
    ⟨some 1, .assign (.tmp 48), none⟩]))))))) (.seq (.reg [⟨some 49, .move (.tmp 5), none⟩,
    ⟨some 4, .assign (.tmp 49), none⟩]) .ret))))
theorem at138 {args : List AV} {H : AH} {Q : AV → AH → Prop} (hl : args.length ≤ 50) (h : swp Tryz.prog s138 (fin Tryz.prog [.tmp 4] Q) (env0 args) H) : AC Tryz.prog 138 args H Q :=
  AC.of (pl138) Tryz.func138 rfl (by kernel_rfl) mixed (by kernel_rfl) (by kernel_rfl) rfl hl h
/-! ### function 139: slices.ContainsFunc[[]int,int] -/
def s139 : SC :=
  .seq (.reg [⟨some 4, .assign (.const (.bool false)), none⟩]) (.seq (.reg [⟨some 5, .move (.tmp 0), none⟩,
    ⟨some 6, .move (.tmp 1), none⟩,
    ⟨some 7, .call { callee := .value (.func 159), args := #[.tmp 5, .tmp 6], argTypes := #[22, 137] }, none⟩,
    ⟨some 8, .binOp .geq 3 (.tmp 7) (.const (.int .i64 0)) 3, none⟩,
    ⟨some 4, .assign (.tmp 8), none⟩]) .ret)
theorem at139 {args : List AV} {H : AH} {Q : AV → AH → Prop} (hl : args.length ≤ 9) (h : swp Tryz.prog s139 (fin Tryz.prog [.tmp 4] Q) (env0 args) H) : AC Tryz.prog 139 args H Q :=
  AC.of (fun _ => []) Tryz.func139 rfl (by kernel_rfl) mixed (by kernel_rfl) (by kernel_rfl) rfl hl h
/-! ### function 140: codewright/code.list$1 -/
def s140 : SC :=
  .seq (.reg [⟨some 3, .assign (.const (.bool false)), none⟩]) (.seq (.reg [⟨some 4, .load 89 (.tmp 1), none⟩,
    ⟨some 5, .move (.tmp 0), none⟩,
    ⟨some 6, .call { callee := .value (.func 141), args := #[.tmp 4, .tmp 5], argTypes := #[89, 3] }, none⟩,
    ⟨some 7, .unOp .not 4 (.tmp 6), none⟩,
    ⟨some 3, .assign (.tmp 7), none⟩]) .ret)
theorem at140 {args : List AV} {H : AH} {Q : AV → AH → Prop} (hl : args.length ≤ 8) (h : swp Tryz.prog s140 (fin Tryz.prog [.tmp 3] Q) (env0 args) H) : AC Tryz.prog 140 args H Q :=
  AC.of (fun _ => []) Tryz.func140 rfl (by kernel_rfl) mixed (by kernel_rfl) (by kernel_rfl) rfl hl h
/-! ### function 141: (*codewright/field.GF).Is -/
def s141 : SC :=
  .seq (.reg [⟨some 4, .assign (.const (.bool false)), none⟩]) (.seq (.reg [⟨some 5, .move (.tmp 1), none⟩,
    ⟨some 6, .binOp .geq 3 (.tmp 5) (.const (.int .i64 0)) 3, none⟩,
    ⟨some 7, .move (.tmp 6), none⟩,
    ⟨some 8, .move (.tmp 1), some (7, true)⟩,
    ⟨some 9, .move (.tmp 0), some (7, true)⟩,
    ⟨some 10, .nilCheck (.tmp 9), some (7, true)⟩,
    ⟨some 11, .fieldAddr 164 (.tmp 10) 1, some (7, true)⟩,
    ⟨some 12, .load 3 (.tmp 11), some (7, true)⟩,
    ⟨some 13, .binOp .lss 3 (.tmp 8) (.tmp 12) 3, some (7, true)⟩,
    ⟨some 14, .pick (.tmp 7) (.tmp 13) (.const (.bool false)), none⟩,
    ⟨some 4, .assign (.tmp 14), none⟩]) .ret)
theorem at141 {args : List AV} {H : AH} {Q : AV → AH → Prop} (hl : args.length ≤ 15) (h : swp Tryz.prog s141 (fin Tryz.prog [.tmp 4] Q) (env0 args) H) : AC Tryz.prog 141 args H Q :=
  AC.of (fun _ => []) Tryz.func141 rfl (by kernel_rfl) mixed (by kernel_rfl) (by kernel_rfl) rfl hl h
/-! ### function 142: codewright/codewrightref04.Is -/
def s142 : SC :=
  .seq (.reg [⟨some 2, .box 24 (.tmp 0), none⟩,
    ⟨some 4, .assign (.const (.bool false)), none⟩]) (.seq (.reg [⟨some 5, .move (.tmp 1), none⟩,
    ⟨some 6, .binOp .geq 3 (.tmp 5) (.const (.int .i64 0)) 3, none⟩,
    ⟨some 7, .move (.tmp 6), none⟩,
    ⟨some 8, .move (.tmp 1), some (7, true)⟩,
    ⟨some 9, .load 24 (.tmp 2), some (7, true)⟩,
    ⟨some 10, .call { callee := .value (.func 125), args := #[.tmp 9], argTypes := #[24] }, some (7, true)⟩,
    ⟨some 11, .binOp .lss 3 (.tmp 8) (.tmp 10) 3, some (7, true)⟩,
    ⟨some 12, .pick (.tmp 7) (.tmp 11) (.const (.bool false)), none⟩,
    ⟨some 4, .assign (.tmp 12), none⟩]) .ret)
theorem at142 {args : List AV} {H : AH} {Q : AV → AH → Prop} (hl : args.length ≤ 13) (h : swp Tryz.prog s142 (fin Tryz.prog [.tmp 4] Q) (env0 args) H) : AC Tryz.prog 142 args H Q :=
  AC.of (fun _ => []) Tryz.func142 rfl (by kernel_rfl) mixed (by kernel_rfl) (by kernel_rfl) rfl hl h
/-! ### function 143: codewright/matrix.check -/
def s143 : SC :=
  .seq (.reg [⟨some 3, .box 62 (.tmp 1), none⟩,
    ⟨some 4, .assign (.const (.int .i64 0)), none⟩]) (.seq (.seq (.reg [⟨some 10, .fieldAddr 62 (.tmp 3) 0, none⟩,
    ⟨some 11, .load 3 (.tmp 10), none⟩,
    ⟨some 12, .binOp .lss 3 (.tmp 11) (.const (.int .i64 0)) 3, none⟩,
    ⟨some 13, .move (.tmp 12), none⟩,
    ⟨some 14, .fieldAddr 62 (.tmp 3) 0, some (13, false)⟩,
    ⟨some 15, .load 3 (.tmp 14), some (13, false)⟩,
    ⟨some 16, .binOp .gtr 3 (.tmp 15) (.const (.int .i64 256)) 3, some (13, false)⟩,
    ⟨some 17, .pick (.tmp 13) (.const (.bool true)) (.tmp 16), none⟩,
    ⟨some 18, .move (.tmp 17), none⟩,
    ⟨some 19, .fieldAddr 62 (.tmp 3) 1, some (18, false)⟩,
    ⟨some 20, .load 25 (.tmp 19), some (18, false)⟩,
    ⟨some 21, .call { callee := .builtin .len, args := #[.tmp 20], argTypes := #[25] }, some (18, false)⟩,
    ⟨some 22, .binOp .gtr 3 (.tmp 21) (.const (.int .i64 256)) 3, some (18, false)⟩,
    ⟨some 23, .pick (.tmp 18) (.const (.bool true)) (.tmp 22), none⟩]) (.cond (.tmp 23) (.seq (.reg [⟨some 4, .assign (.const (.int .i64 3)), none⟩]) .ret) .skip)) (.seq (.seq (.reg [⟨some 24, .fieldAddr 62 (.tmp 3) 1, none⟩,
    ⟨some 25, .load 25 (.tmp 24), none⟩,
    ⟨some 26, .call { callee := .builtin .len, args := #[.tmp 25], argTypes := #[25] }, none⟩,
    ⟨some 27, .move (.const (.int .i64 0)), none⟩]) (.block 0 (.loop (.seq (.reg [⟨some 28, .binOp .lss 3 (.tmp 27) (.tmp 26) 3, none⟩]) (.seq (.cond (.tmp 28) .skip (.exit 0)) (.seq (.block 1 (.seq (.reg [⟨some 29, .indexAddr 25 (.tmp 25) (.tmp 27), none⟩,
    ⟨some 30, .load 22 (.tmp 29), none⟩,
    ⟨some 6, .assign (.tmp 30), none⟩]) (.seq (.reg [⟨some 31, .move (.tmp 6), none⟩,
    ⟨some 32, .call { callee := .builtin .len, args := #[.tmp 31], argTypes := #[22] }, none⟩,
    ⟨some 33, .fieldAddr 62 (.tmp 3) 0, none⟩,
    ⟨some 34, .load 3 (.tmp 33), none⟩,
    ⟨some 35, .binOp .neq 3 (.tmp 32) (.tmp 34) 3, none⟩]) (.cond (.tmp 35) (.seq (.reg [⟨some 4, .assign (.const (.int .i64 3)), none⟩]) .ret) .skip)))) (.reg [⟨some 36, .binOp .add 3 (.tmp 27) (.const (.int .i64 1)) 3, none⟩,
    ⟨some 27, .move (.tmp 36), none⟩]))))))) (.seq (.seq (.reg [⟨some 37, .fieldAddr 62 (.tmp 3) 1, none⟩,
    ⟨some 38, .load 25 (.tmp 37), none⟩,
    ⟨some 39, .call { callee := .builtin .len, args := #[.tmp 38], argTypes := #[25] }, none⟩,
    ⟨some 40, .move (.const (.int .i64 0)), none⟩]) (.block 2 (.loop (.seq (.reg [⟨some 41, .binOp .lss 3 (.tmp 40) (.tmp 39) 3, none⟩]) (.seq (.cond (.tmp 41) .skip (.exit 2)) (.seq (.block 3 (.seq (.reg [⟨some 42, .indexAddr 25 (.tmp 38) (.tmp 40), none⟩,
    ⟨some 43, .load 22 (.tmp 42), none⟩,
    ⟨some 8, .assign (.tmp 43), none⟩]) (.seq (.reg [⟨some 44, .move (.tmp 0), none⟩,
    ⟨some 45, .move (.tmp 8), none⟩,
    ⟨some 46, .call { callee := .value (.func 101), args := #[.tmp 44, .tmp 45], argTypes := #[89, 22] }, none⟩,
    ⟨some 9, .assign (.tmp 46), none⟩]) (.seq (.reg [⟨some 47, .move (.tmp 9), none⟩,
    ⟨some 48, .binOp .neq 28 (.tmp 47) (.const (.int .i64 0)) 28, none⟩]) (.cond (.tmp 48) (.seq (.reg [⟨some 49, .move (.tmp 9), none⟩,
    ⟨some 4, .assign (.tmp 49), none⟩]) .ret) .skip))))) (.reg [⟨some 50, .binOp .add 3 (.tmp 40) (.const (.int .i64 1)) 3, none⟩,
    ⟨some 40, .move (.tmp 50), none⟩]))))))) (.seq (.reg [⟨some 4, .assign (.const (.int .i64 0)), none⟩]) .ret))))
theorem at143 {args : List AV} {H : AH} {Q : AV → AH → Prop} (hl : args.length ≤ 51) (h : swp Tryz.prog s143 (fin Tryz.prog [.tmp 4] Q) (env0 args) H) : AC Tryz.prog 143 args H Q :=
  AC.of (fun _ => []) Tryz.func143 rfl (by kernel_rfl) mixed (by kernel_rfl) (by kernel_rfl) rfl hl h
/-! ### function 144: codewright/matrix.add -/
def pl144 : Nat → Plan
  | 4 => [(0, []), (1, []), (2, []), (3, []), (4, []), (5, []), (6, []), (7, []), (8, []), (9, []), (10, [6]), (11, []), (12, []), (13, [])]
  | _ => []
def s144 : SC :=
  .seq (.reg [⟨some 10, .move (.tmp 3), none⟩,
    ⟨some 11, .call { callee := .builtin .len, args := #[.tmp 10], argTypes := #[22] }, none⟩,
    ⟨some 12, .move (.const (.int .i64 0)), none⟩]) (.block 0 (.loop (.seq (.reg [⟨some 13, .binOp .lss 3 (.tmp 12) (.tmp 11) 3, none⟩]) (.seq (.cond (.tmp 13) .skip (.exit 0)) (.seq (.block 1 (.seq (.reg [⟨some 14, .move (.tmp 12), none⟩,
    ⟨some 15, .indexAddr 22 (.tmp 10) (.tmp 12), none⟩,
    ⟨some 16, .load 3 (.tmp 15), none⟩,
    ⟨some 8, .assign (.tmp 14), none⟩,
    ⟨some 9, .assign (.tmp 16), none⟩]) (.seq (.reg [⟨some 17, .move (.tmp 9), none⟩,
    ⟨some 18, .binOp .neq 3 (.tmp 17) (.const (.int .i64 0)) 3, none⟩]) (.cond (.tmp 18) (.draw [(0, [], ⟨some 19, .move (.tmp 1), none⟩),
    (1, [], ⟨some 20, .move (.tmp 8), none⟩),
    (2, [], ⟨some 21, .move (.tmp 0), none⟩),
    (3, [], ⟨some 22, .move (.tmp 1), none⟩),
    (4, [], ⟨some 23, .move (.tmp 8), none⟩),
    (5, [], ⟨some 24, .indexAddr 22 (.tmp 22) (.tmp 23), none⟩),
    (6, [], ⟨some 25, .load 3 (.tmp 24), none⟩),
    (7, [], ⟨some 26, .move (.tmp 0), none⟩),
    (8, [], ⟨some 27, .move (.tmp 2), none⟩),
    (9, [], ⟨some 28, .move (.tmp 9), none⟩),
    (10, [6], ⟨some 29, .call { callee := .value (.func 158), args := #[.tmp 26, .tmp 27, .tmp 28], argTypes := #[89, 3, 3] }, none⟩),
    (11, [], ⟨some 30, .call { callee := .value (.func 183), args := #[.tmp 21, .tmp 25, .tmp 29], argTypes := #[89, 3, 3] }, none⟩),
    (12, [], ⟨some 31, .indexAddr 22 (.tmp 19) (.tmp 20), none⟩),
    (13, [], ⟨none, .store 3 (.tmp 31) (.tmp 30), none⟩)]) .skip)))) (.reg [⟨some 32, .binOp .add 3 (.tmp 12) (.const (.int .i64 1)) 3, none⟩,
    ⟨some 12, .move (.tmp 32), none⟩]))))))
theorem at144 {args : List AV} {H : AH} {Q : AV → AH → Prop} (hl : args.length ≤ 33) (h : swp Tryz.prog s144 (fin Tryz.prog [] Q) (env0 args) H) : AC Tryz.prog 144 args H Q :=
  AC.of (pl144) Tryz.func144 rfl (by kernel_rfl) mixed (by kernel_rfl) (by kernel_rfl) rfl hl h
/-! ### function 145: codewright/ordering.rank -/
def s145 : SC :=
  .seq (.reg [⟨some 2, .box 27 (.tmp 0), none⟩,
    ⟨some 4, .assign (.const (.int .i64 0)), none⟩]) (.seq (.reg [⟨some 5, .assign (.const (.slice none 0 0)), none⟩]) (.seq (.seq (.reg [⟨some 9, .fieldAddr 27 (.tmp 2) 1, none⟩,
    ⟨some 10, .load 3 (.tmp 9), none⟩,
    ⟨some 11, .move (.const (.int .i64 0)), none⟩]) (.block 0 (.loop (.seq (.reg [⟨some 12, .binOp .lss 3 (.tmp 11) (.tmp 10) 3, none⟩]) (.seq (.cond (.tmp 12) .skip (.exit 0)) (.seq (.block 1 (.seq (.reg [⟨some 13, .move (.tmp 11), none⟩,
    ⟨some 6, .assign (.tmp 13), none⟩]) (.seq (.reg [⟨some 14, .move (.tmp 1), none⟩,
    ⟨some 15, .move (.tmp 6), none⟩,
    ⟨some 16, .binOp .shr 116 (.tmp 14) (.tmp 15) 3, none⟩,
    ⟨some 17, .binOp .and 116 (.tmp 16) (.const (.int .u64 1)) 116, none⟩,
    ⟨some 18, .binOp .eql 116 (.tmp 17) (.const (.int .u64 1)) 116, none⟩]) (.cond (.tmp 18) (.reg [⟨some 19, .move (.tmp 5), none⟩,
    ⟨some 20, .move (.tmp 6), none⟩,
    ⟨some 21, .buildSlice 22 1 #[(0, .tmp 20)], none⟩,
    ⟨some 22, .call { callee := .builtin .append, args := #[.tmp 19, .tmp 21], argTypes := #[22, 22] }, none⟩,
    ⟨some 5, .assign (.tmp 22), none⟩]) .skip)))) (.reg [⟨some 23, .binOp .add 3 (.tmp 11) (.const (.int .i64 1)) 3, none⟩,
    ⟨some 11, .move (.tmp 23), none⟩]))))))) (.seq (.reg [⟨some 25, .load 27 (.tmp 2), none⟩,
    ⟨some 26, .move (.tmp 5), none⟩,
    ⟨some 27, .call { callee := .value (.func 26), args := #[.tmp 25, .tmp 26], argTypes := #[27, 22] }, none⟩,
    ⟨some 24, .move (.tmp 27), none⟩,
    ⟨some 28, .extract (.tmp 24) 0, none⟩,
    ⟨some 29, .extract (.tmp 24) 1, none⟩,
    ⟨some 7, .assign (.tmp 28), none⟩,
    ⟨some 8, .assign (.tmp 29), none⟩]) (.seq (.reg [⟨some 30, .move (.tmp 7), none⟩,
    ⟨some 4, .assign (.tmp 30), none⟩]) .ret))))
theorem at145 {args : List AV} {H : AH} {Q : AV → AH → Prop} (hl : args.length ≤ 31) (h : swp Tryz.prog s145 (fin Tryz.prog [.tmp 4] Q) (env0 args) H) : AC Tryz.prog 145 args H Q :=
  AC.of (fun _ => []) Tryz.func145 rfl (by kernel_rfl) mixed (by kernel_rfl) (by kernel_rfl) rfl hl h
/-! ### function 146: codewright/field.shape -/
def s146 : SC :=
  .seq (.reg [⟨some 1, .box 24 (.tmp 0), none⟩,
    ⟨some 2, .assign (.const (.bool false)), none⟩]) (.seq (.seq (.reg [⟨some 5, .fieldAddr 24 (.tmp 1) 0, none⟩,
    ⟨some 6, .load 3 (.tmp 5), none⟩,
    ⟨some 7, .fieldAddr 24 (.tmp 1) 1, none⟩,
    ⟨some 8, .load 3 (.tmp 7), none⟩,
    ⟨some 9, .call { callee := .value (.func 148), args := #[.tmp 6, .tmp 8], argTypes := #[3, 3] }, none⟩,
    ⟨some 10, .binOp .eql 3 (.tmp 9) (.const (.int .i64 0)) 3, none⟩,
    ⟨some 11, .move (.tmp 10), none⟩,
    ⟨some 12, .fieldAddr 24 (.tmp 1) 0, some (11, false)⟩,
    ⟨some 13, .load 3 (.tmp 12), some (11, false)⟩,
    ⟨some 14, .call { callee := .value (.func 184), args := #[.tmp 13], argTypes := #[3] }, some (11, false)⟩,
    ⟨some 15, .unOp .not 4 (.tmp 14), some (11, false)⟩,
    ⟨some 16, .pick (.tmp 11) (.const (.bool true)) (.tmp 15), none⟩]) (.cond (.tmp 16) (.seq (.reg [⟨some 2, .assign (.const (.bool false)), none⟩]) .ret) .skip)) (.seq (.seq (.reg [⟨some 17, .fieldAddr 24 (.tmp 1) 1, none⟩,
    ⟨some 18, .load 3 (.tmp 17), none⟩,
    ⟨some 19, .binOp .eql 3 (.tmp 18) (.const (.int .i64 1)) 3, none⟩]) (.cond (.tmp 19) (.seq (.reg [⟨some 20, .fieldAddr 24 (.tmp 1) 2, none⟩,
    ⟨some 21, .load 22 (.tmp 20), none⟩,
    ⟨some 22, .call { callee := .builtin .len, args := #[.tmp 21], argTypes := #[22] }, none⟩,
    ⟨some 23, .binOp .eql 3 (.tmp 22) (.const (.int .i64 0)) 3, none⟩,
    ⟨some 2, .assign (.tmp 23), none⟩]) .ret) .skip)) (.seq (.seq (.reg [⟨some 24, .fieldAddr 24 (.tmp 1) 2, none⟩,
    ⟨some 25, .load 22 (.tmp 24), none⟩,
    ⟨some 26, .call { callee := .builtin .len, args := #[.tmp 25], argTypes := #[22] }, none⟩,
    ⟨some 27, .fieldAddr 24 (.tmp 1) 1, none⟩,
    ⟨some 28, .load 3 (.tmp 27), none⟩,
    ⟨some 29, .binOp .neq 3 (.tmp 26) (.tmp 28) 3, none⟩]) (.cond (.tmp 29) (.seq (.reg [⟨some 2, .assign (.const (.bool false)), none⟩]) .ret) .skip)) (.seq (.seq (.reg [⟨some 30, .fieldAddr 24 (.tmp 1) 2, none⟩,
    ⟨some 31, .load 22 (.tmp 30), none⟩,
    ⟨some 32, .call { callee := .builtin .len, args := #[.tmp 31], argTypes := #[22] }, none⟩,
    ⟨some 33, .move (.const (.int .i64 0)), none⟩]) (.block 0 (.loop (.seq (.reg [⟨some 34, .binOp .lss 3 (.tmp 33) (.tmp 32) 3, none⟩]) (.seq (.cond (.tmp 34) .skip (.exit 0)) (.seq (.block 1 (.seq (.reg [⟨some 35, .indexAddr 22 (.tmp 31) (.tmp 33), none⟩,
    ⟨some 36, .load 3 (.tmp 35), none⟩,
    ⟨some 4, .assign (.tmp 36), none⟩]) (.seq (.reg [⟨some 37, .move (.tmp 4), none⟩,
    ⟨some 38, .binOp .lss 3 (.tmp 37) (.const (.int .i64 0)) 3, none⟩,
    ⟨some 39, .move (.tmp 38), none⟩,
    ⟨some 40, .move (.tmp 4), some (39, false)⟩,
    ⟨some 41, .fieldAddr 24 (.tmp 1) 0, some (39, false)⟩,
    ⟨some 42, .load 3 (.tmp 41), some (39, false)⟩,
    ⟨some 43, .binOp .geq 3 (.tmp 40) (.tmp 42) 3, some (39, false)⟩,
    ⟨some 44, .pick (.tmp 39) (.const (.bool true)) (.tmp 43), none⟩]) (.cond (.tmp 44) (.seq (.reg [⟨some 2, .assign (.const (.bool false)), none⟩]) .ret) .skip)))) (.reg [⟨some 45, .binOp .add 3 (.tmp 33) (.const (.int .i64 1)) 3, none⟩,
    ⟨some 33, .move (.tmp 45), none⟩]))))))) (.seq (.reg [⟨some 2, .assign (.const (.bool true)), none⟩]) .ret)))))
theorem at146 {args : List AV} {H : AH} {Q : AV → AH → Prop} (hl : args.length ≤ 46) (h : swp Tryz.prog s146 (fin Tryz.prog [.tmp 2] Q) (env0 args) H) : AC Tryz.prog 146 args H Q :=
  AC.of (fun _ => []) Tryz.func146 rfl (by kernel_rfl) mixed (by kernel_rfl) (by kernel_rfl) rfl hl h
/-! ### function 147: codewright/field.generator -/
def pl147 : Nat → Plan
  | 5 => [(0, []), (1, []), (2, []), (3, []), (4, []), (5, []), (6, []), (7, []), (8, []), (9, []), (10, []), (11, []), (12, []), (13, []), (14, []), (15, [])]
  | _ => []
def s147 : SC :=
  .seq (.reg [⟨some 2, .box 24 (.tmp 0), none⟩,
    ⟨some 4, .assign (.const (.slice none 0 0)), none⟩]) (.seq (.seq (.reg [⟨some 5, .assign (.const (.int .i64 1)), none⟩]) (.block 0 (.loop (.seq (.seq (.reg [⟨some 7, .move (.tmp 5), none⟩,
    ⟨some 8, .move (.tmp 1), none⟩,
    ⟨some 9, .binOp .lss 3 (.tmp 7) (.tmp 8) 3, none⟩]) (.cond (.tmp 9) .skip (.exit 0))) (.seq (.block 1 (.seq (.reg [⟨some 12, .load 24 (.tmp 2), none⟩,
    ⟨some 13, .move (.tmp 1), none⟩,
    ⟨some 14, .move (.tmp 5), none⟩,
    ⟨some 15, .call { callee := .value (.func 185), args := #[.tmp 12, .tmp 13, .tmp 14], argTypes := #[24, 3, 3] }, none⟩,
    ⟨some 6, .assign (.tmp 15), none⟩]) (.seq (.draw [(0, [], ⟨some 16, .move (.tmp 6), none⟩),
    (1, [], ⟨some 17, .call { callee := .builtin .len, args := #[.tmp 16], argTypes := #[22] }, none⟩),
    (2, [], ⟨some 18, .move (.tmp 1), none⟩),
    (3, [], ⟨some 19, .binOp .sub 3 (.tmp 18) (.const (.int .i64 1)) 3, none⟩),
    (4, [], ⟨some 20, .binOp .eql 3 (.tmp 17) (.tmp 19) 3, none⟩),
    (5, [], ⟨some 21, .move (.tmp 20), none⟩),
    (6, [], ⟨some 22, .load 24 (.tmp 2), some (21, true)⟩),
    (7, [], ⟨some 23, .move (.tmp 6), some (21, true)⟩),
    (8, [], ⟨some 24, .move (.tmp 1), some (21, true)⟩),
    (9, [], ⟨some 25, .binOp .sub 3 (.tmp 24) (.const (.int .i64 2)) 3, some (21, true)⟩),
    (10, [], ⟨some 26, .indexAddr 22 (.tmp 23) (.tmp 25), some (21, true)⟩),
    (11, [], ⟨some 27, .load 3 (.tmp 26), some (21, true)⟩),
    (12, [], ⟨some 28, .move (.tmp 5), some (21, true)⟩),
    (13, [], ⟨some 29, .call { callee := .value (.func 186), args := #[.tmp 22, .tmp 27, .tmp 28], argTypes := #[24, 3, 3] }, some (21, true)⟩),
    (14, [], ⟨some 30, .binOp .eql 3 (.tmp 29) (.const (.int .i64 1)) 3, some (21, true)⟩),
    (15, [], ⟨some 31, .pick (.tmp 21) (.tmp 30) (.const (.bool false)), none⟩)]) (.cond (.tmp 31) (.seq (.reg [⟨some 32, .move (.tmp 6), none⟩,
    ⟨some 4, .assign (.tmp 32), none⟩]) .ret) .skip)))) (.reg [⟨some 10, .move (.tmp 5), none⟩,
    ⟨some 11, .binOp .add 3 (.tmp 10) (.const (.int .i64 1)) 3, none⟩,
    ⟨some 5, .assign (.tmp 11), none⟩])))))) (.seq (.reg [⟨some 4, .assign (.const (.slice none 0 0)), none⟩]) .ret))
theorem at147 {args : List AV} {H : AH} {Q : AV → AH → Prop} (hl : args.length ≤ 33) (h : swp Tryz.prog s147 (fin Tryz.prog [.tmp 4] Q) (env0 args) H) : AC Tryz.prog 147 args H Q :=
  AC.of (pl147) Tryz.func147 rfl (by kernel_rfl) mixed (by kernel_rfl) (by kernel_rfl) rfl hl h
/-! ### function 148: codewright/field.order -/
def s148 : SC :=
  .seq (.reg [⟨some 4, .assign (.const (.int .i64 0)), none⟩]) (.seq (.seq (.reg [⟨some 6, .move (.tmp 0), none⟩,
    ⟨some 7, .binOp .lss 3 (.tmp 6) (.const (.int .i64 2)) 3, none⟩,
    ⟨some 8, .move (.tmp 7), none⟩,
    ⟨some 9, .move (.tmp 0), some (8, false)⟩,
    ⟨some 10, .binOp .gtr 3 (.tmp 9) (.const (.int .i64 256)) 3, some (8, false)⟩,
    ⟨some 11, .pick (.tmp 8) (.const (.bool true)) (.tmp 10), none⟩,
    ⟨some 12, .move (.tmp 11), none⟩,
    ⟨some 13, .move (.tmp 1), some (12, false)⟩,
    ⟨some 14, .binOp .lss 3 (.tmp 13) (.const (.int .i64 1)) 3, some (12, false)⟩,
    ⟨some 15, .pick (.tmp 12) (.const (.bool true)) (.tmp 14), none⟩,
    ⟨some 16, .move (.tmp 15), none⟩,
    ⟨some 17, .move (.tmp 1), some (16, false)⟩,
    ⟨some 18, .binOp .gtr 3 (.tmp 17) (.const (.int .i64 8)) 3, some (16, false)⟩,
    ⟨some 19, .pick (.tmp 16) (.const (.bool true)) (.tmp 18), none⟩]) (.cond (.tmp 19) (.seq (.reg [⟨some 4, .assign (.const (.int .i64 0)), none⟩]) .ret) .skip)) (.seq (.reg [⟨some 5, .assign (.const (.int .i64 1)), none⟩]) (.seq (.seq (.reg [⟨some 20, .move (.tmp 1), none⟩,
    ⟨some 21, .move (.const (.int .i64 0)), none⟩]) (.block 0 (.loop (.seq (.reg [⟨some 22, .binOp .lss 3 (.tmp 21) (.tmp 20) 3, none⟩]) (.seq (.cond (.tmp 22) .skip (.exit 0)) (.seq (.block 1 (.seq (.reg [⟨some 23, .move (.tmp 5), none⟩,
    ⟨some 24, .move (.tmp 0), none⟩,
    ⟨some 25, .binOp .mul 3 (.tmp 23) (.tmp 24) 3, none⟩,
    ⟨some 5, .assign (.tmp 25), none⟩]) (.seq (.reg [⟨some 26, .move (.tmp 5), none⟩,
    ⟨some 27, .binOp .gtr 3 (.tmp 26) (.const (.int .i64 256)) 3, none⟩]) (.cond (.tmp 27) (.seq (.reg [⟨some 4, .assign (.const (.int .i64 0)), none⟩]) .ret) .skip)))) (.reg [⟨some 28, .binOp .add 3 (.tmp 21) (.const (.int .i64 1)) 3, none⟩,
    ⟨some 21, .move (.tmp 28), none⟩]))))))) (.seq (.reg [⟨some 29, .move (.tmp 5), none⟩,
    ⟨some 4, .assign (.tmp 29), none⟩]) .ret))))
theorem at148 {args : List AV} {H : AH} {Q : AV → AH → Prop} (hl : args.length ≤ 30) (h : swp Tryz.prog s148 (fin Tryz.prog [.tmp 4] Q) (env0 args) H) : AC Tryz.prog 148 args H Q :=
  AC.of (fun _ => []) Tryz.func148 rfl (by kernel_rfl) mixed (by kernel_rfl) (by kernel_rfl) rfl hl h
/-! ### function 149: codewright/codewrightref09.Eliminate -/
def pl149 : Nat → Plan
  | 11 => [(0, []), (1, []), (2, []), (3, []), (4, []), (5, []), (6, []), (7, []), (8, []), (9, []), (10, []), (11, []), (12, []), (13, []), (14, []), (15, [])]
  | 13 => [(0, []), (1, []), (2, []), (3, []), (4, []), (5, []), (6, []), (7, []), (8, []), (9, []), (10, []), (12, []), (13, []), (14, []), (15, []), (11, [2, 15]), (16, []), (17, []), (18, [])]
  | 18 => [(0, []), (1, []), (2, []), (3, []), (4, []), (5, []), (6, []), (7, []), (8, []), (9, []), (10, []), (11, []), (12, []), (13, []), (14, []), (16, []), (17, []), (18, []), (19, []), (15, [2, 6, 19]), (20, []), (21, []), (22, [])]
  | _ => []
def s149 : SC :=
  .seq (.reg [⟨some 3, .box 24 (.tmp 0), none⟩,
    ⟨some 6, .assign (.const (.slice none 0 0)), none⟩,
    ⟨some 7, .assign (.const (.slice none 0 0)), none⟩]) (.seq (.reg [⟨some 14, .move (.tmp 1), none⟩,
    ⟨some 15, .call { callee := .value (.func 187), args := #[.tmp 14], argTypes := #[25] }, none⟩,
    ⟨some 8, .assign (.tmp 15), none⟩]) (.seq (.reg [⟨some 9, .assign (.const (.slice none 0 0)), none⟩]) (.seq (.reg [⟨some 10, .assign (.const (.int .i64 0)), none⟩]) (.seq (.seq (.reg [⟨some 11, .assign (.const (.int .i64 0)), none⟩]) (.block 0 (.loop (.seq (.seq (.reg [⟨some 16, .move (.tmp 11), none⟩,
    ⟨some 17, .move (.tmp 2), none⟩,
    ⟨some 18, .binOp .lss 3 (.tmp 16) (.tmp 17) 3, none⟩,
    ⟨some 19, .move (.tmp 18), none⟩,
    ⟨some 20, .move (.tmp 10), some (19, true)⟩,
    ⟨some 21, .move (.tmp 8), some (19, true)⟩,
    ⟨some 22, .call { callee := .builtin .len, args := #[.tmp 21], argTypes := #[25] }, some (19, true)⟩,
    ⟨some 23, .binOp .lss 3 (.tmp 20) (.tmp 22) 3, some (19, true)⟩,
    ⟨some 24, .pick (.tmp 19) (.tmp 23) (.const (.bool false)), none⟩]) (.cond (.tmp 24) .skip (.exit 0))) (.seq (.block 1 (.seq (.reg [⟨some 27, .move (.tmp 10), none⟩,
    ⟨some 12, .assign (.tmp 27), none⟩]) (.seq (.block 2 (.loop (.seq (.seq (.reg [⟨some 28, .move (.tmp 12), none⟩,
    ⟨some 29, .move (.tmp 8), none⟩,
    ⟨some 30, .call { callee := .builtin .len, args := #[.tmp 29], argTypes := #[25] }, none⟩,
    ⟨some 31, .binOp .lss 3 (.tmp 28) (.tmp 30) 3, none⟩,
    ⟨some 32, .move (.tmp 31), none⟩,
    ⟨some 33, .move (.tmp 8), some (32, true)⟩,
    ⟨some 34, .move (.tmp 12), some (32, true)⟩,
    ⟨some 35, .indexAddr 25 (.tmp 33) (.tmp 34), some (32, true)⟩,
    ⟨some 36, .load 22 (.tmp 35), some (32, true)⟩,
    ⟨some 37, .move (.tmp 11), some (32, true)⟩,
    ⟨some 38, .indexAddr 22 (.tmp 36) (.tmp 37), some (32, true)⟩,
    ⟨some 39, .load 3 (.tmp 38), some (32, true)⟩,
    ⟨some 40, .binOp .eql 3 (.tmp 39) (.const (.int .i64 0)) 3, some (32, true)⟩,
    ⟨some 41, .pick (.tmp 32) (.tmp 40) (.const (.bool false)), none⟩]) (.cond (.tmp 41) .skip (.exit 2))) (.block 3 (.reg [⟨some 42, .move (.tmp 12), none⟩,
    ⟨some 43, .binOp .add 3 (.tmp 42) (.const (.int .i64 1)) 3, none⟩,
    ⟨some 12, .assign (.tmp 43), none⟩]))))) (.seq (.seq (.reg [⟨some 44, .move (.tmp 12), none⟩,
    ⟨some 45, .move (.tmp 8), none⟩,
    ⟨some 46, .call { callee := .builtin .len, args := #[.tmp 45], argTypes := #[25] }, none⟩,
    ⟨some 47, .binOp .eql 3 (.tmp 44) (.tmp 46) 3, none⟩]) (.cond (.tmp 47) (.exit 1) .skip)) (.seq (.draw [(0, [], ⟨some 48, .move (.tmp 8), none⟩),
    (1, [], ⟨some 49, .move (.tmp 10), none⟩),
    (2, [], ⟨some 50, .move (.tmp 8), none⟩),
    (3, [], ⟨some 51, .move (.tmp 12), none⟩),
    (4, [], ⟨some 52, .move (.tmp 8), none⟩),
    (5, [], ⟨some 53, .move (.tmp 12), none⟩),
    (6, [], ⟨some 54, .indexAddr 25 (.tmp 52) (.tmp 53), none⟩),
    (7, [], ⟨some 55, .load 22 (.tmp 54), none⟩),
    (8, [], ⟨some 56, .move (.tmp 8), none⟩),
    (9, [], ⟨some 57, .move (.tmp 10), none⟩),
    (10, [], ⟨some 58, .indexAddr 25 (.tmp 56) (.tmp 57), none⟩),
    (11, [], ⟨some 59, .load 22 (.tmp 58), none⟩),
    (12, [], ⟨some 60, .indexAddr 25 (.tmp 48) (.tmp 49), none⟩),
    (13, [], ⟨none, .store 22 (.tmp 60) (.tmp 55), none⟩),
    (14, [], ⟨some 61, .indexAddr 25 (.tmp 50) (.tmp 51), none⟩),
    (15, [], ⟨none, .store 22 (.tmp 61) (.tmp 59), none⟩)]) (.seq (.seq (.reg [⟨some 62, .move (.tmp 8), none⟩,
    ⟨some 63, .move (.tmp 10), none⟩,
    ⟨some 64, .indexAddr 25 (.tmp 62) (.tmp 63), none⟩,
    ⟨some 65, .load 22 (.tmp 64), none⟩,
    ⟨some 66, .move (.tmp 11), none⟩,
    ⟨some 67, .indexAddr 22 (.tmp 65) (.tmp 66), none⟩,
    ⟨some 68, .load 3 (.tmp 67), none⟩,
    ⟨some 69, .binOp .neq 3 (.tmp 68) (.const (.int .i64 1)) 3, none⟩]) (.cond (.tmp 69) (.draw [(0, [], ⟨some 70, .move (.tmp 8), none⟩),
    (1, [], ⟨some 71, .move (.tmp 10), none⟩),
    (2, [], ⟨some 72, .load 24 (.tmp 3), none⟩),
    (3, [], ⟨some 73, .load 24 (.tmp 3), none⟩),
    (4, [], ⟨some 74, .move (.tmp 8), none⟩),
    (5, [], ⟨some 75, .move (.tmp 10), none⟩),
    (6, [], ⟨some 76, .indexAddr 25 (.tmp 74) (.tmp 75), none⟩),
    (7, [], ⟨some 77, .load 22 (.tmp 76), none⟩),
    (8, [], ⟨some 78, .move (.tmp 11), none⟩),
    (9, [], ⟨some 79, .indexAddr 22 (.tmp 77) (.tmp 78), none⟩),
    (10, [], ⟨some 80, .load 3 (.tmp 79), none⟩),
    (12, [], ⟨some 82, .move (.tmp 8), none⟩),
    (13, [], ⟨some 83, .move (.tmp 10), none⟩),
    (14, [], ⟨some 84, .indexAddr 25 (.tmp 82) (.tmp 83), none⟩),
    (15, [], ⟨some 85, .load 22 (.tmp 84), none⟩),
    (11, [2, 15], ⟨some 81, .call { callee := .value (.func 189), args := #[.tmp 73, .tmp 80], argTypes := #[24, 3] }, none⟩),
    (16, [], ⟨some 86, .call { callee := .value (.func 188), args := #[.tmp 72, .tmp 81, .tmp 85], argTypes := #[24, 3, 22] }, none⟩),
    (17, [], ⟨some 87, .indexAddr 25 (.tmp 70) (.tmp 71), none⟩),
    (18, [], ⟨none, .store 22 (.tmp 87) (.tmp 86), none⟩)]) .skip)) (.seq (.seq (.reg [⟨some 13, .assign (.const (.int .i64 0)), none⟩]) (.block 4 (.loop (.seq (.seq (.reg [⟨some 88, .move (.tmp 13), none⟩,
    ⟨some 89, .move (.tmp 8), none⟩,
    ⟨some 90, .call { callee := .builtin .len, args := #[.tmp 89], argTypes := #[25] }, none⟩,
    ⟨some 91, .binOp .lss 3 (.tmp 88) (.tmp 90) 3, none⟩]) (.cond (.tmp 91) .skip (.exit 4))) (.seq (.block 5 (.seq (.reg [⟨some 94, .move (.tmp 13), none⟩,
    ⟨some 95, .move (.tmp 10), none⟩,
    ⟨some 96, .binOp .neq 3 (.tmp 94) (.tmp 95) 3, none⟩,
    ⟨some 97, .move (.tmp 96), none⟩,
    ⟨some 98, .move (.tmp 8), some (97, true)⟩,
    ⟨some 99, .move (.tmp 13), some (97, true)⟩,
    ⟨some 100, .indexAddr 25 (.tmp 98) (.tmp 99), some (97, true)⟩,
    ⟨some 101, .load 22 (.tmp 100), some (97, true)⟩,
    ⟨some 102, .move (.tmp 11), some (97, true)⟩,
    ⟨some 103, .indexAddr 22 (.tmp 101) (.tmp 102), some (97, true)⟩,
    ⟨some 104, .load 3 (.tmp 103), some (97, true)⟩,
    ⟨some 105, .binOp .neq 3 (.tmp 104) (.const (.int .i64 0)) 3, some (97, true)⟩,
    ⟨some 106, .pick (.tmp 97) (.tmp 105) (.const (.bool false)), none⟩]) (.cond (.tmp 106) (.draw [(0, [], ⟨some 107, .move (.tmp 8), none⟩),
    (1, [], ⟨some 108, .move (.tmp 13), none⟩),
    (2, [], ⟨some 109, .load 24 (.tmp 3), none⟩),
    (3, [], ⟨some 110, .move (.tmp 8), none⟩),
    (4, [], ⟨some 111, .move (.tmp 13), none⟩),
    (5, [], ⟨some 112, .indexAddr 25 (.tmp 110) (.tmp 111), none⟩),
    (6, [], ⟨some 113, .load 22 (.tmp 112), none⟩),
    (7, [], ⟨some 114, .load 24 (.tmp 3), none⟩),
    (8, [], ⟨some 115, .move (.tmp 8), none⟩),
    (9, [], ⟨some 116, .move (.tmp 13), none⟩),
    (10, [], ⟨some 117, .indexAddr 25 (.tmp 115) (.tmp 116), none⟩),
    (11, [], ⟨some 118, .load 22 (.tmp 117), none⟩),
    (12, [], ⟨some 119, .move (.tmp 11), none⟩),
    (13, [], ⟨some 120, .indexAddr 22 (.tmp 118) (.tmp 119), none⟩),
    (14, [], ⟨some 121, .load 3 (.tmp 120), none⟩),
    (16, [], ⟨some 123, .move (.tmp 8), none⟩),
    (17, [], ⟨some 124, .move (.tmp 10), none⟩),
    (18, [], ⟨some 125, .indexAddr 25 (.tmp 123) (.tmp 124), none⟩),
    (19, [], ⟨some 126, .load 22 (.tmp 125), none⟩),
    (15, [2, 6, 19], ⟨some 122, .call { callee := .value (.func 190), args := #[.tmp 114, .tmp 121], argTypes := #[24, 3] }, none⟩),
    (20, [], ⟨some 127, .call { callee := .value (.func 113), args := #[.tmp 109, .tmp 113, .tmp 122, .tmp 126], argTypes := #[24, 22, 3, 22] }, none⟩),
    (21, [], ⟨some 128, .indexAddr 25 (.tmp 107) (.tmp 108), none⟩),
    (22, [], ⟨none, .store 22 (.tmp 128) (.tmp 127), none⟩)]) .skip))) (.reg [⟨some 92, .move (.tmp 13), none⟩,
    ⟨some 93, .binOp .add 3 (.tmp 92) (.const (.int .i64 1)) 3, none⟩,
    ⟨some 13, .assign (.tmp 93), none⟩])))))) (.seq (.reg [⟨some 129, .move (.tmp 9), none⟩,
    ⟨some 130, .move (.tmp 11), none⟩,
    ⟨some 131, .buildSlice 22 1 #[(0, .tmp 130)], none⟩,
    ⟨some 132, .call { callee := .builtin .append, args := #[.tmp 129, .tmp 131], argTypes := #[22, 22] }, none⟩,
    ⟨some 9, .assign (.tmp 132), none⟩]) (.reg [⟨some 133, .move (.tmp 10), none⟩,
    ⟨some 134, .binOp .add 3 (.tmp 133) (.const (.int .i64 1)) 3, none⟩,
    ⟨some 10, .assign (.tmp 134), none⟩]))))))))) (.reg [⟨some 25, .move (.tmp 11), none⟩,
    ⟨some 26, .binOp .add 3 (.tmp 25) (.const (.int .i64 1)) 3, none⟩,
    ⟨some 11, .assign (.tmp 26), none⟩])))))) (.seq (.reg [⟨some 135, .move (.tmp 8), none⟩,
    ⟨some 136, .move (.tmp 9), none⟩,
    ⟨some 6, .assign (.tmp 135), none⟩,
    ⟨some 7, .assign (.tmp 136), none⟩]) .ret)))))
theorem at149 {args : List AV} {H : AH} {Q : AV → AH → Prop} (hl : args.length ≤ 137) (h : swp Tryz.prog s149 (fin Tryz.prog [.tmp 6, .tmp 7] Q) (env0 args) H) : AC Tryz.prog 149 args H Q :=
  AC.of (pl149) Tryz.func149 rfl (by kernel_rfl) mixed (by kernel_rfl) (by kernel_rfl) rfl hl h
/-! ### function 150: codewright/codewrightref04.Add -/
def pl150 : Nat → Plan
  | 6 => [(0, []), (1, []), (2, []), (3, []), (4, []), (5, []), (6, []), (7, []), (8, []), (9, []), (10, []), (11, []), (12, []), (13, []), (14, []), (15, [])]
  | _ => []
def s150 : SC :=
  .seq (.reg [⟨some 3, .box 24 (.tmp 0), none⟩,
    ⟨some 6, .assign (.const (.int .i64 0)), none⟩]) (.seq (.reg [⟨some 10, .load 24 (.tmp 3), none⟩,
    ⟨some 11, .move (.tmp 1), none⟩,
    ⟨some 12, .call { callee := .value (.func 191), args := #[.tmp 10, .tmp 11], argTypes := #[24, 3] }, none⟩,
    ⟨some 7, .assign (.tmp 12), none⟩]) (.seq (.reg [⟨some 13, .load 24 (.tmp 3), none⟩,
    ⟨some 14, .move (.tmp 2), none⟩,
    ⟨some 15, .call { callee := .value (.func 191), args := #[.tmp 13, .tmp 14], argTypes := #[24, 3] }, none⟩,
    ⟨some 8, .assign (.tmp 15), none⟩]) (.seq (.seq (.reg [⟨some 9, .assign (.const (.int .i64 0)), none⟩]) (.block 0 (.loop (.seq (.seq (.reg [⟨some 16, .move (.tmp 9), none⟩,
    ⟨some 17, .move (.tmp 7), none⟩,
    ⟨some 18, .call { callee := .builtin .len, args := #[.tmp 17], argTypes := #[22] }, none⟩,
    ⟨some 19, .binOp .lss 3 (.tmp 16) (.tmp 18) 3, none⟩]) (.cond (.tmp 19) .skip (.exit 0))) (.seq (.block 1 (.draw [(0, [], ⟨some 22, .move (.tmp 7), none⟩),
    (1, [], ⟨some 23, .move (.tmp 9), none⟩),
    (2, [], ⟨some 24, .move (.tmp 7), none⟩),
    (3, [], ⟨some 25, .move (.tmp 9), none⟩),
    (4, [], ⟨some 26, .indexAddr 22 (.tmp 24) (.tmp 25), none⟩),
    (5, [], ⟨some 27, .load 3 (.tmp 26), none⟩),
    (6, [], ⟨some 28, .move (.tmp 8), none⟩),
    (7, [], ⟨some 29, .move (.tmp 9), none⟩),
    (8, [], ⟨some 30, .indexAddr 22 (.tmp 28) (.tmp 29), none⟩),
    (9, [], ⟨some 31, .load 3 (.tmp 30), none⟩),
    (10, [], ⟨some 32, .binOp .add 3 (.tmp 27) (.tmp 31) 3, none⟩),
    (11, [], ⟨some 33, .fieldAddr 24 (.tmp 3) 0, none⟩),
    (12, [], ⟨some 34, .load 3 (.tmp 33), none⟩),
    (13, [], ⟨some 35, .binOp .rem 3 (.tmp 32) (.tmp 34) 3, none⟩),
    (14, [], ⟨some 36, .indexAddr 22 (.tmp 22) (.tmp 23), none⟩),
    (15, [], ⟨none, .store 3 (.tmp 36) (.tmp 35), none⟩)])) (.reg [⟨some 20, .move (.tmp 9), none⟩,
    ⟨some 21, .binOp .add 3 (.tmp 20) (.const (.int .i64 1)) 3, none⟩,
    ⟨some 9, .assign (.tmp 21), none⟩])))))) (.seq (.reg [⟨some 37, .load 24 (.tmp 3), none⟩,
    ⟨some 38, .move (.tmp 7), none⟩,
    ⟨some 39, .call { callee := .value (.func 192), args := #[.tmp 37, .tmp 38], argTypes := #[24, 22] }, none⟩,
    ⟨some 6, .assign (.tmp 39), none⟩]) .ret))))
theorem at150 {args : List AV} {H : AH} {Q : AV → AH → Prop} (hl : args.length ≤ 40) (h : swp Tryz.prog s150 (fin Tryz.prog [.tmp 6] Q) (env0 args) H) : AC Tryz.prog 150 args H Q :=
  AC.of (pl150) Tryz.func150 rfl (by kernel_rfl) mixed (by kernel_rfl) (by kernel_rfl) rfl hl h
/-! ### function 151: codewright/codewrightref04.Mul -/
def pl151 : Nat → Plan
  | 10 => [(0, []), (1, []), (2, []), (3, []), (4, []), (5, []), (6, []), (7, []), (8, []), (9, []), (10, []), (11, []), (12, []), (13, []), (14, []), (15, []), (16, []), (17, []), (18, []), (19, []), (20, []), (21, []), (22, []), (23, []), (24, [])]
  | 17 => [(0, []), (1, []), (2, []), (3, []), (4, []), (5, []), (6, []), (7, []), (8, []), (9, []), (10, []), (11, []), (12, []), (13, []), (14, []), (15, []), (16, []), (17, []), (18, []), (19, []), (20, []), (21, []), (22, []), (23, []), (24, []), (25, []), (26, []), (27, []), (28, []), (29, []), (30, []), (31, []), (32, []), (33, []), (34, [])]
  | 18 => [(0, []), (1, []), (2, []), (3, []), (4, []), (5, []), (6, [])]
  | _ => []
def s151 : SC :=
  .seq (.reg [⟨some 3, .box 24 (.tmp 0), none⟩,
    ⟨some 6, .assign (.const (.int .i64 0)), none⟩]) (.seq (.reg [⟨some 14, .load 24 (.tmp 3), none⟩,
    ⟨some 15, .move (.tmp 1), none⟩,
    ⟨some 16, .call { callee := .value (.func 191), args := #[.tmp 14, .tmp 15], argTypes := #[24, 3] }, none⟩,
    ⟨some 7, .assign (.tmp 16), none⟩]) (.seq (.reg [⟨some 17, .load 24 (.tmp 3), none⟩,
    ⟨some 18, .move (.tmp 2), none⟩,
    ⟨some 19, .call { callee := .value (.func 191), args := #[.tmp 17, .tmp 18], argTypes := #[24, 3] }, none⟩,
    ⟨some 8, .assign (.tmp 19), none⟩]) (.seq (.reg [⟨some 20, .fieldAddr 24 (.tmp 3) 1, none⟩,
    ⟨some 21, .load 3 (.tmp 20), none⟩,
    ⟨some 22, .binOp .mul 3 (.const (.int .i64 2)) (.tmp 21) 3, none⟩,
    ⟨some 23, .binOp .sub 3 (.tmp 22) (.const (.int .i64 1)) 3, none⟩,
    ⟨some 24, .makeSlice 22 (.tmp 23) (.tmp 23), none⟩,
    ⟨some 9, .assign (.tmp 24), none⟩]) (.seq (.seq (.reg [⟨some 10, .assign (.const (.int .i64 0)), none⟩]) (.block 0 (.loop (.seq (.seq (.reg [⟨some 25, .move (.tmp 10), none⟩,
    ⟨some 26, .fieldAddr 24 (.tmp 3) 1, none⟩,
    ⟨some 27, .load 3 (.tmp 26), none⟩,
    ⟨some 28, .binOp .lss 3 (.tmp 25) (.tmp 27) 3, none⟩]) (.cond (.tmp 28) .skip (.exit 0))) (.seq (.block 1 (.seq (.reg [⟨some 11, .assign (.const (.int .i64 0)), none⟩]) (.block 2 (.loop (.seq (.seq (.reg [⟨some 31, .move (.tmp 11), none⟩,
    ⟨some 32, .fieldAddr 24 (.tmp 3) 1, none⟩,
    ⟨some 33, .load 3 (.tmp 32), none⟩,
    ⟨some 34, .binOp .lss 3 (.tmp 31) (.tmp 33) 3, none⟩]) (.cond (.tmp 34) .skip (.exit 2))) (.seq (.block 3 (.draw [(0, [], ⟨some 37, .move (.tmp 9), none⟩),
    (1, [], ⟨some 38, .move (.tmp 10), none⟩),
    (2, [], ⟨some 39, .move (.tmp 11), none⟩),
    (3, [], ⟨some 40, .binOp .add 3 (.tmp 38) (.tmp 39) 3, none⟩),
    (4, [], ⟨some 41, .move (.tmp 9), none⟩),
    (5, [], ⟨some 42, .move (.tmp 10), none⟩),
    (6, [], ⟨some 43, .move (.tmp 11), none⟩),
    (7, [], ⟨some 44, .binOp .add 3 (.tmp 42) (.tmp 43) 3, none⟩),
    (8, [], ⟨some 45, .indexAddr 22 (.tmp 41) (.tmp 44), none⟩),
    (9, [], ⟨some 46, .load 3 (.tmp 45), none⟩),
    (10, [], ⟨some 47, .move (.tmp 7), none⟩),
    (11, [], ⟨some 48, .move (.tmp 10), none⟩),
    (12, [], ⟨some 49, .indexAddr 22 (.tmp 47) (.tmp 48), none⟩),
    (13, [], ⟨some 50, .load 3 (.tmp 49), none⟩),
    (14, [], ⟨some 51, .move (.tmp 8), none⟩),
    (15, [], ⟨some 52, .move (.tmp 11), none⟩),
    (16, [], ⟨some 53, .indexAddr 22 (.tmp 51) (.tmp 52), none⟩),
    (17, [], ⟨some 54, .load 3 (.tmp 53), none⟩),
    (18, [], ⟨some 55, .binOp .mul 3 (.tmp 50) (.tmp 54) 3, none⟩),
    (19, [], ⟨some 56, .binOp .add 3 (.tmp 46) (.tmp 55) 3, none⟩),
    (20, [], ⟨some 57, .fieldAddr 24 (.tmp 3) 0, none⟩),
    (21, [], ⟨some 58, .load 3 (.tmp 57), none⟩),
    (22, [], ⟨some 59, .binOp .rem 3 (.tmp 56) (.tmp 58) 3, none⟩),
    (23, [], ⟨some 60, .indexAddr 22 (.tmp 37) (.tmp 40), none⟩),
    (24, [], ⟨none, .store 3 (.tmp 60) (.tmp 59), none⟩)])) (.reg [⟨some 35, .move (.tmp 11), none⟩,
    ⟨some 36, .binOp .add 3 (.tmp 35) (.const (.int .i64 1)) 3, none⟩,
    ⟨some 11, .assign (.tmp 36), none⟩]))))))) (.reg [⟨some 29, .move (.tmp 10), none⟩,
    ⟨some 30, .binOp .add 3 (.tmp 29) (.const (.int .i64 1)) 3, none⟩,
    ⟨some 10, .assign (.tmp 30), none⟩])))))) (.seq (.seq (.reg [⟨some 61, .fieldAddr 24 (.tmp 3) 1, none⟩,
    ⟨some 62, .load 3 (.tmp 61), none⟩,
    ⟨some 63, .binOp .mul 3 (.const (.int .i64 2)) (.tmp 62) 3, none⟩,
    ⟨some 64, .binOp .sub 3 (.tmp 63) (.const (.int .i64 2)) 3, none⟩,
    ⟨some 12, .assign (.tmp 64), none⟩]) (.block 4 (.loop (.seq (.seq (.reg [⟨some 65, .move (.tmp 12), none⟩,
    ⟨some 66, .fieldAddr 24 (.tmp 3) 1, none⟩,
    ⟨some 67, .load 3 (.tmp 66), none⟩,
    ⟨some 68, .binOp .geq 3 (.tmp 65) (.tmp 67) 3, none⟩]) (.cond (.tmp 68) .skip (.exit 4))) (.seq (.block 5 (.seq (.reg [⟨some 13, .assign (.const (.int .i64 0)), none⟩]) (.block 6 (.loop (.seq (.seq (.reg [⟨some 71, .move (.tmp 13), none⟩,
    ⟨some 72, .fieldAddr 24 (.tmp 3) 1, none⟩,
    ⟨some 73, .load 3 (.tmp 72), none⟩,
    ⟨some 74, .binOp .lss 3 (.tmp 71) (.tmp 73) 3, none⟩]) (.cond (.tmp 74) .skip (.exit 6))) (.seq (.block 7 (.draw [(0, [], ⟨some 77, .move (.tmp 9), none⟩),
    (1, [], ⟨some 78, .move (.tmp 12), none⟩),
    (2, [], ⟨some 79, .fieldAddr 24 (.tmp 3) 1, none⟩),
    (3, [], ⟨some 80, .load 3 (.tmp 79), none⟩),
    (4, [], ⟨some 81, .binOp .sub 3 (.tmp 78) (.tmp 80) 3, none⟩),
    (5, [], ⟨some 82, .move (.tmp 13), none⟩),
    (6, [], ⟨some 83, .binOp .add 3 (.tmp 81) (.tmp 82) 3, none⟩),
    (7, [], ⟨some 84, .move (.tmp 9), none⟩),
    (8, [], ⟨some 85, .move (.tmp 12), none⟩),
    (9, [], ⟨some 86, .fieldAddr 24 (.tmp 3) 1, none⟩),
    (10, [], ⟨some 87, .load 3 (.tmp 86), none⟩),
    (11, [], ⟨some 88, .binOp .sub 3 (.tmp 85) (.tmp 87) 3, none⟩),
    (12, [], ⟨some 89, .move (.tmp 13), none⟩),
    (13, [], ⟨some 90, .binOp .add 3 (.tmp 88) (.tmp 89) 3, none⟩),
    (14, [], ⟨some 91, .indexAddr 22 (.tmp 84) (.tmp 90), none⟩),
    (15, [], ⟨some 92, .load 3 (.tmp 91), none⟩),
    (16, [], ⟨some 93, .fieldAddr 24 (.tmp 3) 0, none⟩),
    (17, [], ⟨some 94, .load 3 (.tmp 93), none⟩),
    (18, [], ⟨some 95, .move (.tmp 9), none⟩),
    (19, [], ⟨some 96, .move (.tmp 12), none⟩),
    (20, [], ⟨some 97, .indexAddr 22 (.tmp 95) (.tmp 96), none⟩),
    (21, [], ⟨some 98, .load 3 (.tmp 97), none⟩),
    (22, [], ⟨some 99, .binOp .sub 3 (.tmp 94) (.tmp 98) 3, none⟩),
    (23, [], ⟨some 100, .fieldAddr 24 (.tmp 3) 2, none⟩),
    (24, [], ⟨some 101, .load 22 (.tmp 100), none⟩),
    (25, [], ⟨some 102, .move (.tmp 13), none⟩),
    (26, [], ⟨some 103, .indexAddr 22 (.tmp 101) (.tmp 102), none⟩),
    (27, [], ⟨some 104, .load 3 (.tmp 103), none⟩),
    (28, [], ⟨some 105, .binOp .mul 3 (.tmp 99) (.tmp 104) 3, none⟩),
    (29, [], ⟨some 106, .binOp .add 3 (.tmp 92) (.tmp 105) 3, none⟩),
    (30, [], ⟨some 107, .fieldAddr 24 (.tmp 3) 0, none⟩),
    (31, [], ⟨some 108, .load 3 (.tmp 107), none⟩),
    (32, [], ⟨some 109, .binOp .rem 3 (.tmp 106) (.tmp 108) 3, none⟩),
    (33, [], ⟨some 110, .indexAddr 22 (.tmp 77) (.tmp 83), none⟩),
    (34, [], ⟨none, .store 3 (.tmp 110) (.tmp 109), none⟩)])) (.reg [⟨some 75, .move (.tmp 13), none⟩,
    ⟨some 76, .binOp .add 3 (.tmp 75) (.const (.int .i64 1)) 3, none⟩,
    ⟨some 13, .assign (.tmp 76), none⟩]))))))) (.reg [⟨some 69, .move (.tmp 12), none⟩,
    ⟨some 70, .binOp .sub 3 (.tmp 69) (.const (.int .i64 1)) 3, none⟩,
    ⟨some 12, .assign (.tmp 70), none⟩])))))) (.seq (.draw [(0, [], ⟨some 111, .load 24 (.tmp 3), none⟩),
    (1, [], ⟨some 112, .move (.tmp 9), none⟩),
    (2, [], ⟨some 113, .fieldAddr 24 (.tmp 3) 1, none⟩),
    (3, [], ⟨some 114, .load 3 (.tmp 113), none⟩),
    (4, [], ⟨some 115, .slice 22 (.tmp 112) none (some (.tmp 114)) none, none⟩),
    (5, [], ⟨some 116, .call { callee := .value (.func 192), args := #[.tmp 111, .tmp 115], argTypes := #[24, 22] }, none⟩),
    (6, [], ⟨some 6, .assign (.tmp 116), none⟩)]) .ret))))))
theorem at151 {args : List AV} {H : AH} {Q : AV → AH → Prop} (hl : args.length ≤ 117) (h : swp Tryz.prog s151 (fin Tryz.prog [.tmp 6] Q) (env0 args) H) : AC Tryz.prog 151 args H Q :=
  AC.of (pl151) Tryz.func151 rfl (by kernel_rfl) mixed (by kernel_rfl) (by kernel_rfl) rfl hl h
/-! ### function 152: slices.EqualFunc[[][]int,[][]int,[]int,[]int] -/
def s152 : SC :=
  .seq (.reg [⟨some 6, .assign (.const (.bool false)), none⟩]) (.seq (.seq (.reg [⟨some 10, .move (.tmp 0), none⟩,
    ⟨some 11, .call { callee := .builtin .len, args := #[.tmp 10], argTypes := #[25] }, none⟩,
    ⟨some 12, .move (.tmp 1), none⟩,
    ⟨some 13, .call { callee := .builtin .len, args := #[.tmp 12], argTypes := #[25] }, none⟩,
    ⟨some 14, .binOp .neq 3 (.tmp 11) (.tmp 13) 3, none⟩]) (.cond (.tmp 14) (.seq (.reg [⟨some 6, .assign (.const (.bool false)), none⟩]) .ret) .skip)) (.seq (.seq (.reg [⟨some 15, .move (.tmp 0), none⟩,
    ⟨some 16, .call { callee := .builtin .len, args := #[.tmp 15], argTypes := #[25] }, none⟩,
    ⟨some 17, .move (.const (.int .i64 0)), none⟩]) (.block 0 (.loop (.seq (.reg [⟨some 18, .binOp .lss 3 (.tmp 17) (.tmp 16) 3, none⟩]) (.seq (.cond (.tmp 18) .skip (.exit 0)) (.seq (.block 1 (.seq (.reg [⟨some 19, .move (.tmp 17), none⟩,
    ⟨some 20, .indexAddr 25 (.tmp 15) (.tmp 17), none⟩,
    ⟨some 21, .load 22 (.tmp 20), none⟩,
    ⟨some 7, .assign (.tmp 19), none⟩,
    ⟨some 8, .assign (.tmp 21), none⟩]) (.seq (.reg [⟨some 22, .move (.tmp 1), none⟩,
    ⟨some 23, .move (.tmp 7), none⟩,
    ⟨some 24, .indexAddr 25 (.tmp 22) (.tmp 23), none⟩,
    ⟨some 25, .load 22 (.tmp 24), none⟩,
    ⟨some 9, .assign (.tmp 25), none⟩]) (.seq (.reg [⟨some 26, .move (.tmp 2), none⟩,
    ⟨some 27, .move (.tmp 8), none⟩,
    ⟨some 28, .move (.tmp 9), none⟩,
    ⟨some 29, .call { callee := .value (.tmp 26), args := #[.tmp 27, .tmp 28], argTypes := #[22, 22] }, none⟩,
    ⟨some 30, .unOp .not 4 (.tmp 29), none⟩]) (.cond (.tmp 30) (.seq (.reg [⟨some 6, .assign (.const (.bool false)), none⟩]) .ret) .skip))))) (.reg [⟨some 31, .binOp .add 3 (.tmp 17) (.const (.int .i64 1)) 3, none⟩,
    ⟨some 17, .move (.tmp 31), none⟩]))))))) (.seq (.reg [⟨some 6, .assign (.const (.bool true)), none⟩]) .ret)))
theorem at152 {args : List AV} {H : AH} {Q : AV → AH → Prop} (hl : args.length ≤ 32) (h : swp Tryz.prog s152 (fin Tryz.prog [.tmp 6] Q) (env0 args) H) : AC Tryz.prog 152 args H Q :=
  AC.of (fun _ => []) Tryz.func152 rfl (by kernel_rfl) mixed (by kernel_rfl) (by kernel_rfl) rfl hl h
/-! ### function 153: slices.Equal[[]int,int] -/
def pl153 : Nat → Plan
  | 6 => [(0, []), (1, []), (2, []), (3, []), (4, []), (5, []), (6, []), (7, []), (8, [])]
  | _ => []
def s153 : SC :=
  .seq (.reg [⟨some 4, .assign (.const (.bool false)), none⟩]) (.seq (.seq (.reg [⟨some 6, .move (.tmp 0), none⟩,
    ⟨some 7, .call { callee := .builtin .len, args := #[.tmp 6], argTypes := #[22] }, none⟩,
    ⟨some 8, .move (.tmp 1), none⟩,
    ⟨some 9, .call { callee := .builtin .len, args := #[.tmp 8], argTypes := #[22] }, none⟩,
    ⟨some 10, .binOp .neq 3 (.tmp 7) (.tmp 9) 3, none⟩]) (.cond (.tmp 10) (.seq (.reg [⟨some 4, .assign (.const (.bool false)), none⟩]) .ret) .skip)) (.seq (.seq (.reg [⟨some 11, .move (.tmp 0), none⟩,
    ⟨some 12, .call { callee := .builtin .len, args := #[.tmp 11], argTypes := #[22] }, none⟩,
    ⟨some 13, .move (.const (.int .i64 0)), none⟩]) (.block 0 (.loop (.seq (.reg [⟨some 14, .binOp .lss 3 (.tmp 13) (.tmp 12) 3, none⟩]) (.seq (.cond (.tmp 14) .skip (.exit 0)) (.seq (.block 1 (.seq (.reg [⟨some 15, .move (.tmp 13), none⟩,
    ⟨some 5, .assign (.tmp 15), none⟩]) (.seq (.draw [(0, [], ⟨some 16, .move (.tmp 0), none⟩),
    (1, [], ⟨some 17, .move (.tmp 5), none⟩),
    (2, [], ⟨some 18, .indexAddr 22 (.tmp 16) (.tmp 17), none⟩),
    (3, [], ⟨some 19, .load 3 (.tmp 18), none⟩),
    (4, [], ⟨some 20, .move (.tmp 1), none⟩),
    (5, [], ⟨some 21, .move (.tmp 5), none⟩),
    (6, [], ⟨some 22, .indexAddr 22 (.tmp 20) (.tmp 21), none⟩),
    (7, [], ⟨some 23, .load 3 (.tmp 22), none⟩),
    (8, [], ⟨some 24, .binOp .neq 3 (.tmp 19) (.tmp 23) 3, none⟩)]) (.cond (.tmp 24) (.seq (.reg [⟨some 4, .assign (.const (.bool false)), none⟩]) .ret) .skip)))) (.reg [⟨some 25, .binOp .add 3 (.tmp 13) (.const (.int .i64 1)) 3, none⟩,
    ⟨some 13, .move (.tmp 25), none⟩]))))))) (.seq (.reg [⟨some 4, .assign (.const (.bool true)), none⟩]) .ret)))
theorem at153 {args : List AV} {H : AH} {Q : AV → AH → Prop} (hl : args.length ≤ 26) (h : swp Tryz.prog s153 (fin Tryz.prog [.tmp 4] Q) (env0 args) H) : AC Tryz.prog 153 args H Q :=
  AC.of (pl153) Tryz.func153 rfl (by kernel_rfl) mixed (by kernel_rfl) (by kernel_rfl) rfl hl h
/-! ### function 154: (codewright/space.view).word$1 -/
def s154 : SC :=
  .seq (.reg [⟨some 3, .assign (.const (.bool false)), none⟩]) (.seq (.reg [⟨some 4, .fieldAddr 126 (.tmp 1) 0, none⟩,
    ⟨some 5, .load 89 (.tmp 4), none⟩,
    ⟨some 6, .move (.tmp 0), none⟩,
    ⟨some 7, .call { callee := .value (.func 141), args := #[.tmp 5, .tmp 6], argTypes := #[89, 3] }, none⟩,
    ⟨some 8, .unOp .not 4 (.tmp 7), none⟩,
    ⟨some 3, .assign (.tmp 8), none⟩]) .ret)
theorem at154 {args : List AV} {H : AH} {Q : AV → AH → Prop} (hl : args.length ≤ 9) (h : swp Tryz.prog s154 (fin Tryz.prog [.tmp 3] Q) (env0 args) H) : AC Tryz.prog 154 args H Q :=
  AC.of (fun _ => []) Tryz.func154 rfl (by kernel_rfl) mixed (by kernel_rfl) (by kernel_rfl) rfl hl h
/-! ### function 155: (codewright/space.view).reduce -/
def pl155 : Nat → Plan
  | 11 => [(0, []), (1, []), (2, []), (3, []), (4, []), (5, []), (6, []), (7, []), (8, []), (9, []), (10, []), (11, []), (12, [3, 7]), (13, []), (14, []), (15, [])]
  | _ => []
def s155 : SC :=
  .seq (.reg [⟨some 2, .box 126 (.tmp 0), none⟩,
    ⟨some 4, .assign (.const (.slice none 0 0)), none⟩,
    ⟨some 5, .assign (.const (.slice none 0 0)), none⟩]) (.seq (.reg [⟨some 11, .move (.tmp 1), none⟩,
    ⟨some 12, .call { callee := .value (.func 85), args := #[.tmp 11], argTypes := #[22] }, none⟩,
    ⟨some 4, .assign (.tmp 12), none⟩]) (.seq (.seq (.reg [⟨some 13, .fieldAddr 126 (.tmp 2) 2, none⟩,
    ⟨some 14, .load 22 (.tmp 13), none⟩,
    ⟨some 15, .call { callee := .builtin .len, args := #[.tmp 14], argTypes := #[22] }, none⟩,
    ⟨some 16, .move (.const (.int .i64 0)), none⟩]) (.block 0 (.loop (.seq (.reg [⟨some 17, .binOp .lss 3 (.tmp 16) (.tmp 15) 3, none⟩]) (.seq (.cond (.tmp 17) .skip (.exit 0)) (.seq (.block 1 (.seq (.reg [⟨some 18, .move (.tmp 16), none⟩,
    ⟨some 19, .indexAddr 22 (.tmp 14) (.tmp 16), none⟩,
    ⟨some 20, .load 3 (.tmp 19), none⟩,
    ⟨some 6, .assign (.tmp 18), none⟩,
    ⟨some 7, .assign (.tmp 20), none⟩]) (.seq (.reg [⟨some 21, .move (.tmp 4), none⟩,
    ⟨some 22, .move (.tmp 7), none⟩,
    ⟨some 23, .indexAddr 22 (.tmp 21) (.tmp 22), none⟩,
    ⟨some 24, .load 3 (.tmp 23), none⟩,
    ⟨some 8, .assign (.tmp 24), none⟩]) (.seq (.reg [⟨some 25, .move (.tmp 5), none⟩,
    ⟨some 26, .move (.tmp 8), none⟩,
    ⟨some 27, .buildSlice 22 1 #[(0, .tmp 26)], none⟩,
    ⟨some 28, .call { callee := .builtin .append, args := #[.tmp 25, .tmp 27], argTypes := #[22, 22] }, none⟩,
    ⟨some 5, .assign (.tmp 28), none⟩]) (.seq (.reg [⟨some 29, .move (.tmp 8), none⟩,
    ⟨some 30, .binOp .neq 3 (.tmp 29) (.const (.int .i64 0)) 3, none⟩]) (.cond (.tmp 30) (.seq (.reg [⟨some 31, .fieldAddr 126 (.tmp 2) 1, none⟩,
    ⟨some 32, .fieldAddr 62 (.tmp 31) 1, none⟩,
    ⟨some 33, .load 25 (.tmp 32), none⟩,
    ⟨some 34, .move (.tmp 6), none⟩,
    ⟨some 35, .indexAddr 25 (.tmp 33) (.tmp 34), none⟩,
    ⟨some 36, .load 22 (.tmp 35), none⟩,
    ⟨some 37, .call { callee := .builtin .len, args := #[.tmp 36], argTypes := #[22] }, none⟩,
    ⟨some 38, .move (.const (.int .i64 0)), none⟩]) (.block 2 (.loop (.seq (.reg [⟨some 39, .binOp .lss 3 (.tmp 38) (.tmp 37) 3, none⟩]) (.seq (.cond (.tmp 39) .skip (.exit 2)) (.seq (.block 3 (.seq (.reg [⟨some 40, .move (.tmp 38), none⟩,
    ⟨some 41, .indexAddr 22 (.tmp 36) (.tmp 38), none⟩,
    ⟨some 42, .load 3 (.tmp 41), none⟩,
    ⟨some 9, .assign (.tmp 40), none⟩,
    ⟨some 10, .assign (.tmp 42), none⟩]) (.draw [(0, [], ⟨some 43, .move (.tmp 4), none⟩),
    (1, [], ⟨some 44, .move (.tmp 9), none⟩),
    (2, [], ⟨some 45, .fieldAddr 126 (.tmp 2) 0, none⟩),
    (3, [], ⟨some 46, .load 89 (.tmp 45), none⟩),
    (4, [], ⟨some 47, .move (.tmp 4), none⟩),
    (5, [], ⟨some 48, .move (.tmp 9), none⟩),
    (6, [], ⟨some 49, .indexAddr 22 (.tmp 47) (.tmp 48), none⟩),
    (7, [], ⟨some 50, .load 3 (.tmp 49), none⟩),
    (8, [], ⟨some 51, .fieldAddr 126 (.tmp 2) 0, none⟩),
    (9, [], ⟨some 52, .load 89 (.tmp 51), none⟩),
    (10, [], ⟨some 53, .move (.tmp 8), none⟩),
    (11, [], ⟨some 54, .move (.tmp 10), none⟩),
    (12, [3, 7], ⟨some 55, .call { callee := .value (.func 158), args := #[.tmp 52, .tmp 53, .tmp 54], argTypes := #[89, 3, 3] }, none⟩),
    (13, [], ⟨some 56, .call { callee := .value (.func 157), args := #[.tmp 46, .tmp 50, .tmp 55], argTypes := #[89, 3, 3] }, none⟩),
    (14, [], ⟨some 57, .indexAddr 22 (.tmp 43) (.tmp 44), none⟩),
    (15, [], ⟨none, .store 3 (.tmp 57) (.tmp 56), none⟩)]))) (.reg [⟨some 58, .binOp .add 3 (.tmp 38) (.const (.int .i64 1)) 3, none⟩,
    ⟨some 38, .move (.tmp 58), none⟩]))))))) .skip)))))) (.reg [⟨some 59, .binOp .add 3 (.tmp 16) (.const (.int .i64 1)) 3, none⟩,
    ⟨some 16, .move (.tmp 59), none⟩]))))))) (.seq (.reg [⟨some 60, .move (.tmp 4), none⟩,
    ⟨some 61, .move (.tmp 5), none⟩,
    ⟨some 4, .assign (.tmp 60), none⟩,
    ⟨some 5, .assign (.tmp 61), none⟩]) .ret)))
theorem at155 {args : List AV} {H : AH} {Q : AV → AH → Prop} (hl : args.length ≤ 62) (h : swp Tryz.prog s155 (fin Tryz.prog [.tmp 4, .tmp 5] Q) (env0 args) H) : AC Tryz.prog 155 args H Q :=
  AC.of (pl155) Tryz.func155 rfl (by kernel_rfl) mixed (by kernel_rfl) (by kernel_rfl) rfl hl h
/-! ### function 156: codewright/space.zero -/
def s156 : SC :=
  .seq (.reg [⟨some 2, .assign (.const (.bool false)), none⟩]) (.seq (.reg [⟨some 3, .move (.tmp 0), none⟩,
    ⟨some 4, .call { callee := .value (.func 139), args := #[.tmp 3, .func 193], argTypes := #[22, 137] }, none⟩,
    ⟨some 5, .unOp .not 4 (.tmp 4), none⟩,
    ⟨some 2, .assign (.tmp 5), none⟩]) .ret)
theorem at156 {args : List AV} {H : AH} {Q : AV → AH → Prop} (hl : args.length ≤ 6) (h : swp Tryz.prog s156 (fin Tryz.prog [.tmp 2] Q) (env0 args) H) : AC Tryz.prog 156 args H Q :=
  AC.of (fun _ => []) Tryz.func156 rfl (by kernel_rfl) mixed (by kernel_rfl) (by kernel_rfl) rfl hl h
/-! ### function 157: (*codewright/field.GF).Sub -/
def s157 : SC :=
  .seq (.reg [⟨some 6, .assign (.const (.int .i64 0)), none⟩]) (.seq (.reg [⟨some 7, .move (.tmp 0), none⟩,
    ⟨some 8, .move (.tmp 1), none⟩,
    ⟨some 9, .move (.tmp 0), none⟩,
    ⟨some 10, .move (.tmp 2), none⟩,
    ⟨some 11, .call { callee := .value (.func 138), args := #[.tmp 9, .tmp 10], argTypes := #[89, 3] }, none⟩,
    ⟨some 12, .call { callee := .value (.func 183), args := #[.tmp 7, .tmp 8, .tmp 11], argTypes := #[89, 3, 3] }, none⟩,
    ⟨some 6, .assign (.tmp 12), none⟩]) .ret)
theorem at157 {args : List AV} {H : AH} {Q : AV → AH → Prop} (hl : args.length ≤ 13) (h : swp Tryz.prog s157 (fin Tryz.prog [.tmp 6] Q) (env0 args) H) : AC Tryz.prog 157 args H Q :=
  AC.of (fun _ => []) Tryz.func157 rfl (by kernel_rfl) mixed (by kernel_rfl) (by kernel_rfl) rfl hl h
/-! ### function 158: (*codewright/field.GF).Mul -/
def pl158 : Nat → Plan
  | 4 => [(0, []), (1, []), (2, []), (3, []), (4, []), (5, []), (6, []), (7, []), (8, []), (9, []), (10, []), (11, []), (12, []), (13, []), (14, []), (15, []), (16, []), (17, []), (18, []), (19, []), (20, []), (21, []), (22, []), (23, []), (24, []), (25, []), (26, []), (27, [])]
  | _ => []
def s158 : SC :=
  .seq (.reg [⟨some 6, .assign (.const (.int .i64 0)), none⟩]) (.seq (.reg [⟨some 7, .move (.tmp 0), none⟩,
    ⟨some 8, .move (.tmp 1), none⟩,
    ⟨some 9, .call { callee := .value (.func 182), args := #[.tmp 7, .tmp 8], argTypes := #[89, 3] }, none⟩,
    ⟨some 10, .move (.tmp 0), none⟩,
    ⟨some 11, .move (.tmp 2), none⟩,
    ⟨some 12, .call { callee := .value (.func 182), args := #[.tmp 10, .tmp 11], argTypes := #[89, 3] }, none⟩,
    ⟨some 1, .assign (.tmp 9), none⟩,
    ⟨some 2, .assign (.tmp 12), none⟩]) (.seq (.seq (.reg [⟨some 13, .move (.tmp 1), none⟩,
    ⟨some 14, .binOp .eql 3 (.tmp 13) (.const (.int .i64 0)) 3, none⟩,
    ⟨some 15, .move (.tmp 14), none⟩,
    ⟨some 16, .move (.tmp 2), some (15, false)⟩,
    ⟨some 17, .binOp .eql 3 (.tmp 16) (.const (.int .i64 0)) 3, some (15, false)⟩,
    ⟨some 18, .pick (.tmp 15) (.const (.bool true)) (.tmp 17), none⟩]) (.cond (.tmp 18) (.seq (.reg [⟨some 6, .assign (.const (.int .i64 0)), none⟩]) .ret) .skip)) (.seq (.draw [(0, [], ⟨some 19, .move (.tmp 0), none⟩),
    (1, [], ⟨some 20, .nilCheck (.tmp 19), none⟩),
    (2, [], ⟨some 21, .fieldAddr 164 (.tmp 20) 2, none⟩),
    (3, [], ⟨some 22, .load 22 (.tmp 21), none⟩),
    (4, [], ⟨some 23, .move (.tmp 0), none⟩),
    (5, [], ⟨some 24, .nilCheck (.tmp 23), none⟩),
    (6, [], ⟨some 25, .fieldAddr 164 (.tmp 24) 3, none⟩),
    (7, [], ⟨some 26, .load 22 (.tmp 25), none⟩),
    (8, [], ⟨some 27, .move (.tmp 1), none⟩),
    (9, [], ⟨some 28, .indexAddr 22 (.tmp 26) (.tmp 27), none⟩),
    (10, [], ⟨some 29, .load 3 (.tmp 28), none⟩),
    (11, [], ⟨some 30, .move (.tmp 0), none⟩),
    (12, [], ⟨some 31, .nilCheck (.tmp 30), none⟩),
    (13, [], ⟨some 32, .fieldAddr 164 (.tmp 31) 3, none⟩),
    (14, [], ⟨some 33, .load 22 (.tmp 32), none⟩),
    (15, [], ⟨some 34, .move (.tmp 2), none⟩),
    (16, [], ⟨some 35, .indexAddr 22 (.tmp 33) (.tmp 34), none⟩),
    (17, [], ⟨some 36, .load 3 (.tmp 35), none⟩),
    (18, [], ⟨some 37, .binOp .add 3 (.tmp 29) (.tmp 36) 3, none⟩),
    (19, [], ⟨some 38, .move (.tmp 0), none⟩),
    (20, [], ⟨some 39, .nilCheck (.tmp 38), none⟩),
    (21, [], ⟨some 40, .fieldAddr 164 (.tmp 39) 1, none⟩),
    (22, [], ⟨some 41, .load 3 (.tmp 40), none⟩),
    (23, [], ⟨some 42, .binOp .sub 3 (.tmp 41) (.const (.int .i64 1)) 3, none⟩),
    (24, [], ⟨some 43, .binOp .rem 3 (.tmp 37) (.tmp 42) 3, none⟩),
    (25, [], ⟨some 44, .indexAddr 22 (.tmp 22) (.tmp 43), none⟩),
    (26, [], ⟨some 45, .load 3 (.tmp 44), none⟩),
    (27, [], ⟨some 6, .assign (.tmp 45), none⟩)]) .ret)))
theorem at158 {args : List AV} {H : AH} {Q : AV → AH → Prop} (hl : args.length ≤ 46) (h : swp Tryz.prog s158 (fin Tryz.prog [.tmp 6] Q) (env0 args) H) : AC Tryz.prog 158 args H Q :=
  AC.of (pl158) Tryz.func158 rfl (by kernel_rfl) mixed (by kernel_rfl) (by kernel_rfl) rfl hl h
/-! ### function 159: slices.IndexFunc[[]int,int] -/
def s159 : SC :=
  .seq (.reg [⟨some 4, .assign (.const (.int .i64 0)), none⟩]) (.seq (.seq (.reg [⟨some 6, .move (.tmp 0), none⟩,
    ⟨some 7, .call { callee := .builtin .len, args := #[.tmp 6], argTypes := #[22] }, none⟩,
    ⟨some 8, .move (.const (.int .i64 0)), none⟩]) (.block 0 (.loop (.seq (.reg [⟨some 9, .binOp .lss 3 (.tmp 8) (.tmp 7) 3, none⟩]) (.seq (.cond (.tmp 9) .skip (.exit 0)) (.seq (.block 1 (.seq (.reg [⟨some 10, .move (.tmp 8), none⟩,
    ⟨some 5, .assign (.tmp 10), none⟩]) (.seq (.reg [⟨some 11, .move (.tmp 1), none⟩,
    ⟨some 12, .move (.tmp 0), none⟩,
    ⟨some 13, .move (.tmp 5), none⟩,
    ⟨some 14, .indexAddr 22 (.tmp 12) (.tmp 13), none⟩,
    ⟨some 15, .load 3 (.tmp 14), none⟩,
    ⟨some 16, .call { callee := .value (.tmp 11), args := #[.tmp 15], argTypes := #[3] }, none⟩]) (.cond (.tmp 16) (.seq (.reg [⟨some 17, .move (.tmp 5), none⟩,
    ⟨some 4, .assign (.tmp 17), none⟩]) .ret) .skip)))) (.reg [⟨some 18, .binOp .add 3 (.tmp 8) (.const (.int .i64 1)) 3, none⟩,
    ⟨some 8, .move (.tmp 18), none⟩]))))))) (.seq (.reg [⟨some 4, .assign (.const (.int .i64 (-1))), none⟩]) .ret))
theorem at159 {args : List AV} {H : AH} {Q : AV → AH → Prop} (hl : args.length ≤ 19) (h : swp Tryz.prog s159 (fin Tryz.prog [.tmp 4] Q) (env0 args) H) : AC Tryz.prog 159 args H Q :=
  AC.of (fun _ => []) Tryz.func159 rfl (by kernel_rfl) mixed (by kernel_rfl) (by kernel_rfl) rfl hl h
/-! ### function 160: (*codewright/infoset.basis).add$1 -/
def s160 : SC :=
  .seq (.reg [⟨some 2, .assign (.const (.bool false)), none⟩]) (.seq (.reg [⟨some 3, .move (.tmp 0), none⟩,
    ⟨some 4, .binOp .neq 3 (.tmp 3) (.const (.int .i64 0)) 3, none⟩,
    ⟨some 2, .assign (.tmp 4), none⟩]) .ret)
theorem at160 {args : List AV} {H : AH} {Q : AV → AH → Prop} (hl : args.length ≤ 5) (h : swp Tryz.prog s160 (fin Tryz.prog [.tmp 2] Q) (env0 args) H) : AC Tryz.prog 160 args H Q :=
  AC.of (fun _ => []) Tryz.func160 rfl (by kernel_rfl) mixed (by kernel_rfl) (by kernel_rfl) rfl hl h
/-! ### function 161: (*codewright/field.GF).Inv -/
def pl161 : Nat → Plan
  | 4 => [(0, []), (1, []), (2, []), (3, []), (4, []), (5, []), (6, []), (7, []), (8, []), (9, []), (10, []), (11, []), (12, []), (13, []), (14, []), (15, []), (16, []), (17, []), (18, []), (19, []), (20, []), (21, []), (22, []), (23, []), (24, []), (25, []), (26, [])]
  | _ => []
def s161 : SC :=
  .seq (.reg [⟨some 4, .assign (.const (.int .i64 0)), none⟩,
    ⟨some 5, .assign (.const (.int .i64 0)), none⟩]) (.seq (.reg [⟨some 6, .move (.tmp 0), none⟩,
    ⟨some 7, .move (.tmp 1), none⟩,
    ⟨some 8, .call { callee := .value (.func 182), args := #[.tmp 6, .tmp 7], argTypes := #[89, 3] }, none⟩,
    ⟨some 1, .assign (.tmp 8), none⟩]) (.seq (.seq (.reg [⟨some 9, .move (.tmp 1), none⟩,
    ⟨some 10, .binOp .eql 3 (.tmp 9) (.const (.int .i64 0)) 3, none⟩]) (.cond (.tmp 10) (.seq (.reg [⟨some 4, .assign (.const (.int .i64 0)), none⟩,
    ⟨some 5, .assign (.const (.int .i64 7)), none⟩]) .ret) .skip)) (.seq (.draw [(0, [], ⟨some 11, .move (.tmp 0), none⟩),
    (1, [], ⟨some 12, .nilCheck (.tmp 11), none⟩),
    (2, [], ⟨some 13, .fieldAddr 164 (.tmp 12) 2, none⟩),
    (3, [], ⟨some 14, .load 22 (.tmp 13), none⟩),
    (4, [], ⟨some 15, .move (.tmp 0), none⟩),
    (5, [], ⟨some 16, .nilCheck (.tmp 15), none⟩),
    (6, [], ⟨some 17, .fieldAddr 164 (.tmp 16) 1, none⟩),
    (7, [], ⟨some 18, .load 3 (.tmp 17), none⟩),
    (8, [], ⟨some 19, .binOp .sub 3 (.tmp 18) (.const (.int .i64 1)) 3, none⟩),
    (9, [], ⟨some 20, .move (.tmp 0), none⟩),
    (10, [], ⟨some 21, .nilCheck (.tmp 20), none⟩),
    (11, [], ⟨some 22, .fieldAddr 164 (.tmp 21) 3, none⟩),
    (12, [], ⟨some 23, .load 22 (.tmp 22), none⟩),
    (13, [], ⟨some 24, .move (.tmp 1), none⟩),
    (14, [], ⟨some 25, .indexAddr 22 (.tmp 23) (.tmp 24), none⟩),
    (15, [], ⟨some 26, .load 3 (.tmp 25), none⟩),
    (16, [], ⟨some 27, .binOp .sub 3 (.tmp 19) (.tmp 26) 3, none⟩),
    (17, [], ⟨some 28, .move (.tmp 0), none⟩),
    (18, [], ⟨some 29, .nilCheck (.tmp 28), none⟩),
    (19, [], ⟨some 30, .fieldAddr 164 (.tmp 29) 1, none⟩),
    (20, [], ⟨some 31, .load 3 (.tmp 30), none⟩),
    (21, [], ⟨some 32, .binOp .sub 3 (.tmp 31) (.const (.int .i64 1)) 3, none⟩),
    (22, [], ⟨some 33, .binOp .rem 3 (.tmp 27) (.tmp 32) 3, none⟩),
    (23, [], ⟨some 34, .indexAddr 22 (.tmp 14) (.tmp 33), none⟩),
    (24, [], ⟨some 35, .load 3 (.tmp 34), none⟩),
    (25, [], ⟨some 4, .assign (.tmp 35), none⟩),
    (26, [], ⟨some 5, .assign (.const (.int .i64 0)), none⟩)]) .ret)))
theorem at161 {args : List AV} {H : AH} {Q : AV → AH → Prop} (hl : args.length ≤ 36) (h : swp Tryz.prog s161 (fin Tryz.prog [.tmp 4, .tmp 5] Q) (env0 args) H) : AC Tryz.prog 161 args H Q :=
  AC.of (pl161) Tryz.func161 rfl (by kernel_rfl) mixed (by kernel_rfl) (by kernel_rfl) rfl hl h
/-! ### function 162: (*codewright/field.GF).Scale -/
def s162 : SC :=
  .seq (.reg [⟨some 6, .assign (.const (.slice none 0 0)), none⟩]) (.seq (.reg [⟨some 10, .move (.tmp 2), none⟩,
    ⟨some 11, .call { callee := .builtin .len, args := #[.tmp 10], argTypes := #[22] }, none⟩,
    ⟨some 12, .makeSlice 22 (.tmp 11) (.tmp 11), none⟩,
    ⟨some 7, .assign (.tmp 12), none⟩]) (.seq (.seq (.reg [⟨some 13, .move (.tmp 2), none⟩,
    ⟨some 14, .call { callee := .builtin .len, args := #[.tmp 13], argTypes := #[22] }, none⟩,
    ⟨some 15, .move (.const (.int .i64 0)), none⟩]) (.block 0 (.loop (.seq (.reg [⟨some 16, .binOp .lss 3 (.tmp 15) (.tmp 14) 3, none⟩]) (.seq (.cond (.tmp 16) .skip (.exit 0)) (.seq (.block 1 (.seq (.reg [⟨some 17, .move (.tmp 15), none⟩,
    ⟨some 18, .indexAddr 22 (.tmp 13) (.tmp 15), none⟩,
    ⟨some 19, .load 3 (.tmp 18), none⟩,
    ⟨some 8, .assign (.tmp 17), none⟩,
    ⟨some 9, .assign (.tmp 19), none⟩]) (.reg [⟨some 20, .move (.tmp 7), none⟩,
    ⟨some 21, .move (.tmp 8), none⟩,
    ⟨some 22, .move (.tmp 0), none⟩,
    ⟨some 23, .move (.tmp 1), none⟩,
    ⟨some 24, .move (.tmp 9), none⟩,
    ⟨some 25, .call { callee := .value (.func 158), args := #[.tmp 22, .tmp 23, .tmp 24], argTypes := #[89, 3, 3] }, none⟩,
    ⟨some 26, .indexAddr 22 (.tmp 20) (.tmp 21), none⟩,
    ⟨none, .store 3 (.tmp 26) (.tmp 25), none⟩]))) (.reg [⟨some 27, .binOp .add 3 (.tmp 15) (.const (.int .i64 1)) 3, none⟩,
    ⟨some 15, .move (.tmp 27), none⟩]))))))) (.seq (.reg [⟨some 28, .move (.tmp 7), none⟩,
    ⟨some 6, .assign (.tmp 28), none⟩]) .ret)))
theorem at162 {args : List AV} {H : AH} {Q : AV → AH → Prop} (hl : args.length ≤ 29) (h : swp Tryz.prog s162 (fin Tryz.prog [.tmp 6] Q) (env0 args) H) : AC Tryz.prog 162 args H Q :=
  AC.of (fun _ => []) Tryz.func162 rfl (by kernel_rfl) mixed (by kernel_rfl) (by kernel_rfl) rfl hl h
/-! ### function 175: codewright/codewrightref04.divides -/
def pl175 : Nat → Plan
  | 11 => [(0, []), (1, []), (2, []), (3, []), (4, []), (5, []), (6, []), (7, []), (8, []), (9, []), (10, []), (11, []), (12, []), (13, []), (14, []), (15, []), (16, []), (17, []), (18, []), (19, []), (20, []), (21, []), (22, []), (23, []), (24, []), (25, []), (26, [])]
  | _ => []
def s175 : SC :=
  .seq (.reg [⟨some 6, .assign (.const (.bool false)), none⟩]) (.seq (.reg [⟨some 13, .move (.tmp 0), none⟩,
    ⟨some 14, .call { callee := .builtin .len, args := #[.tmp 13], argTypes := #[22] }, none⟩,
    ⟨some 7, .assign (.tmp 14), none⟩]) (.seq (.reg [⟨some 15, .buildSlice 22 0 #[], none⟩,
    ⟨some 16, .move (.tmp 1), none⟩,
    ⟨some 17, .call { callee := .builtin .append, args := #[.tmp 15, .tmp 16], argTypes := #[22, 22] }, none⟩,
    ⟨some 8, .assign (.tmp 17), none⟩]) (.seq (.reg [⟨some 18, .move (.tmp 8), none⟩,
    ⟨some 19, .buildSlice 22 1 #[(0, .const (.int .i64 1))], none⟩,
    ⟨some 20, .call { callee := .builtin .append, args := #[.tmp 18, .tmp 19], argTypes := #[22, 22] }, none⟩,
    ⟨some 8, .assign (.tmp 20), none⟩]) (.seq (.seq (.reg [⟨some 21, .move (.tmp 8), none⟩,
    ⟨some 22, .call { callee := .builtin .len, args := #[.tmp 21], argTypes := #[22] }, none⟩,
    ⟨some 23, .binOp .sub 3 (.tmp 22) (.const (.int .i64 1)) 3, none⟩,
    ⟨some 9, .assign (.tmp 23), none⟩]) (.block 0 (.loop (.seq (.seq (.reg [⟨some 24, .move (.tmp 9), none⟩,
    ⟨some 25, .move (.tmp 7), none⟩,
    ⟨some 26, .binOp .geq 3 (.tmp 24) (.tmp 25) 3, none⟩]) (.cond (.tmp 26) .skip (.exit 0))) (.seq (.block 1 (.seq (.reg [⟨some 29, .move (.tmp 8), none⟩,
    ⟨some 30, .move (.tmp 9), none⟩,
    ⟨some 31, .indexAddr 22 (.tmp 29) (.tmp 30), none⟩,
    ⟨some 32, .load 3 (.tmp 31), none⟩,
    ⟨some 10, .assign (.tmp 32), none⟩]) (.seq (.seq (.reg [⟨some 11, .assign (.const (.int .i64 0)), none⟩]) (.block 2 (.loop (.seq (.seq (.reg [⟨some 33, .move (.tmp 11), none⟩,
    ⟨some 34, .move (.tmp 7), none⟩,
    ⟨some 35, .binOp .lss 3 (.tmp 33) (.tmp 34) 3, none⟩]) (.cond (.tmp 35) .skip (.exit 2))) (.seq (.block 3 (.draw [(0, [], ⟨some 38, .move (.tmp 8), none⟩),
    (1, [], ⟨some 39, .move (.tmp 9), none⟩),
    (2, [], ⟨some 40, .move (.tmp 7), none⟩),
    (3, [], ⟨some 41, .binOp .sub 3 (.tmp 39) (.tmp 40) 3, none⟩),
    (4, [], ⟨some 42, .move (.tmp 11), none⟩),
    (5, [], ⟨some 43, .binOp .add 3 (.tmp 41) (.tmp 42) 3, none⟩),
    (6, [], ⟨some 44, .move (.tmp 8), none⟩),
    (7, [], ⟨some 45, .move (.tmp 9), none⟩),
    (8, [], ⟨some 46, .move (.tmp 7), none⟩),
    (9, [], ⟨some 47, .binOp .sub 3 (.tmp 45) (.tmp 46) 3, none⟩),
    (10, [], ⟨some 48, .move (.tmp 11), none⟩),
    (11, [], ⟨some 49, .binOp .add 3 (.tmp 47) (.tmp 48) 3, none⟩),
    (12, [], ⟨some 50, .indexAddr 22 (.tmp 44) (.tmp 49), none⟩),
    (13, [], ⟨some 51, .load 3 (.tmp 50), none⟩),
    (14, [], ⟨some 52, .move (.tmp 2), none⟩),
    (15, [], ⟨some 53, .move (.tmp 10), none⟩),
    (16, [], ⟨some 54, .binOp .sub 3 (.tmp 52) (.tmp 53) 3, none⟩),
    (17, [], ⟨some 55, .move (.tmp 0), none⟩),
    (18, [], ⟨some 56, .move (.tmp 11), none⟩),
    (19, [], ⟨some 57, .indexAddr 22 (.tmp 55) (.tmp 56), none⟩),
    (20, [], ⟨some 58, .load 3 (.tmp 57), none⟩),
    (21, [], ⟨some 59, .binOp .mul 3 (.tmp 54) (.tmp 58) 3, none⟩),
    (22, [], ⟨some 60, .binOp .add 3 (.tmp 51) (.tmp 59) 3, none⟩),
    (23, [], ⟨some 61, .move (.tmp 2), none⟩),
    (24, [], ⟨some 62, .binOp .rem 3 (.tmp 60) (.tmp 61) 3, none⟩),
    (25, [], ⟨some 63, .indexAddr 22 (.tmp 38) (.tmp 43), none⟩),
    (26, [], ⟨none, .store 3 (.tmp 63) (.tmp 62), none⟩)])) (.reg [⟨some 36, .move (.tmp 11), none⟩,
    ⟨some 37, .binOp .add 3 (.tmp 36) (.const (.int .i64 1)) 3, none⟩,
    ⟨some 11, .assign (.tmp 37), none⟩])))))) (.reg [⟨some 64, .move (.tmp 8), none⟩,
    ⟨some 65, .move (.tmp 9), none⟩,
    ⟨some 66, .indexAddr 22 (.tmp 64) (.tmp 65), none⟩,
    ⟨none, .store 3 (.tmp 66) (.const (.int .i64 0)), none⟩])))) (.reg [⟨some 27, .move (.tmp 9), none⟩,
    ⟨some 28, .binOp .sub 3 (.tmp 27) (.const (.int .i64 1)) 3, none⟩,
    ⟨some 9, .assign (.tmp 28), none⟩])))))) (.seq (.seq (.reg [⟨some 12, .assign (.const (.int .i64 0)), none⟩]) (.block 4 (.loop (.seq (.seq (.reg [⟨some 67, .move (.tmp 12), none⟩,
    ⟨some 68, .move (.tmp 8), none⟩,
    ⟨some 69, .call { callee := .builtin .len, args := #[.tmp 68], argTypes := #[22] }, none⟩,
    ⟨some 70, .binOp .lss 3 (.tmp 67) (.tmp 69) 3, none⟩]) (.cond (.tmp 70) .skip (.exit 4))) (.seq (.block 5 (.seq (.reg [⟨some 73, .move (.tmp 8), none⟩,
    ⟨some 74, .move (.tmp 12), none⟩,
    ⟨some 75, .indexAddr 22 (.tmp 73) (.tmp 74), none⟩,
    ⟨some 76, .load 3 (.tmp 75), none⟩,
    ⟨some 77, .binOp .neq 3 (.tmp 76) (.const (.int .i64 0)) 3, none⟩]) (.cond (.tmp 77) (.seq (.reg [⟨some 6, .assign (.const (.bool false)), none⟩]) .ret) .skip))) (.reg [⟨some 71, .move (.tmp 12), none⟩,
    ⟨some 72, .binOp .add 3 (.tmp 71) (.const (.int .i64 1)) 3, none⟩,
    ⟨some 12, .assign (.tmp 72), none⟩])))))) (.seq (.reg [⟨some 6, .assign (.const (.bool true)), none⟩]) .ret))))))
theorem at175 {args : List AV} {H : AH} {Q : AV → AH → Prop} (hl : args.length ≤ 78) (h : swp Tryz.prog s175 (fin Tryz.prog [.tmp 6] Q) (env0 args) H) : AC Tryz.prog 175 args H Q :=
  AC.of (pl175) Tryz.func175 rfl (by kernel_rfl) mixed (by kernel_rfl) (by kernel_rfl) rfl hl h
/-! ### function 176: codewright/codewrightref04.digits -/
def s176 : SC :=
  .seq (.reg [⟨some 6, .assign (.const (.slice none 0 0)), none⟩]) (.seq (.reg [⟨some 9, .move (.tmp 2), none⟩,
    ⟨some 10, .makeSlice 22 (.tmp 9) (.tmp 9), none⟩,
    ⟨some 7, .assign (.tmp 10), none⟩]) (.seq (.seq (.reg [⟨some 8, .assign (.const (.int .i64 0)), none⟩]) (.block 0 (.loop (.seq (.seq (.reg [⟨some 11, .move (.tmp 8), none⟩,
    ⟨some 12, .move (.tmp 2), none⟩,
    ⟨some 13, .binOp .lss 3 (.tmp 11) (.tmp 12) 3, none⟩]) (.cond (.tmp 13) .skip (.exit 0))) (.seq (.block 1 (.seq (.reg [⟨some 16, .move (.tmp 7), none⟩,
    ⟨some 17, .move (.tmp 8), none⟩,
    ⟨some 18, .move (.tmp 0), none⟩,
    ⟨some 19, .move (.tmp 1), none⟩,
    ⟨some 20, .binOp .rem 3 (.tmp 18) (.tmp 19) 3, none⟩,
    ⟨some 21, .indexAddr 22 (.tmp 16) (.tmp 17), none⟩,
    ⟨none, .store 3 (.tmp 21) (.tmp 20), none⟩]) (.reg [⟨some 22, .move (.tmp 0), none⟩,
    ⟨some 23, .move (.tmp 1), none⟩,
    ⟨some 24, .binOp .quo 3 (.tmp 22) (.tmp 23) 3, none⟩,
    ⟨some 0, .assign (.tmp 24), none⟩]))) (.reg [⟨some 14, .move (.tmp 8), none⟩,
    ⟨some 15, .binOp .add 3 (.tmp 14) (.const (.int .i64 1)) 3, none⟩,
    ⟨some 8, .assign (.tmp 15), none⟩])))))) (.seq (.reg [⟨some 25, .move (.tmp 7), none⟩,
    ⟨some 6, .assign (.tmp 25), none⟩]) .ret)))
theorem at176 {args : List AV} {H : AH} {Q : AV → AH → Prop} (hl : args.length ≤ 26) (h : swp Tryz.prog s176 (fin Tryz.prog [.tmp 6] Q) (env0 args) H) : AC Tryz.prog 176 args H Q :=
  AC.of (fun _ => []) Tryz.func176 rfl (by kernel_rfl) mixed (by kernel_rfl) (by kernel_rfl) rfl hl h
/-! ### function 177: codewright/matrix.eliminate$1 -/
def s177 : SC :=
  .seq (.reg [⟨some 4, .move (.tmp 0), none⟩,
    ⟨some 5, .load 25 (.tmp 1), none⟩,
    ⟨some 6, .call { callee := .value (.tmp 4), args := #[.tmp 5], argTypes := #[25] }, none⟩]) (.seq (.reg [⟨some 7, .load 25 (.tmp 2), none⟩,
    ⟨some 8, .call { callee := .builtin .len, args := #[.tmp 7], argTypes := #[25] }, none⟩,
    ⟨some 9, .binOp .gtr 3 (.tmp 8) (.const (.int .i64 0)) 3, none⟩]) (.cond (.tmp 9) (.reg [⟨some 10, .move (.tmp 0), none⟩,
    ⟨some 11, .load 25 (.tmp 2), none⟩,
    ⟨some 12, .call { callee := .value (.tmp 10), args := #[.tmp 11], argTypes := #[25] }, none⟩]) .skip))
theorem at177 {args : List AV} {H : AH} {Q : AV → AH → Prop} (hl : args.length ≤ 13) (h : swp Tryz.prog s177 (fin Tryz.prog [] Q) (env0 args) H) : AC Tryz.prog 177 args H Q :=
  AC.of (fun _ => []) Tryz.func177 rfl (by kernel_rfl) mixed (by kernel_rfl) (by kernel_rfl) rfl hl h
/-! ### function 178: codewright/matrix.eliminate$2 -/
def pl178 : Nat → Plan
  | 0 => [(0, []), (1, []), (2, []), (3, []), (4, []), (5, []), (6, []), (7, []), (8, []), (9, []), (10, []), (11, []), (12, []), (13, [3]), (14, []), (15, [])]
  | _ => []
def s178 : SC :=
  .draw [(0, [], ⟨some 4, .move (.tmp 0), none⟩),
    (1, [], ⟨some 5, .load 3 (.tmp 2), none⟩),
    (2, [], ⟨some 6, .move (.tmp 0), none⟩),
    (3, [], ⟨some 7, .load 3 (.tmp 1), none⟩),
    (4, [], ⟨some 8, .move (.tmp 0), none⟩),
    (5, [], ⟨some 9, .load 3 (.tmp 1), none⟩),
    (6, [], ⟨some 10, .indexAddr 25 (.tmp 8) (.tmp 9), none⟩),
    (7, [], ⟨some 11, .load 22 (.tmp 10), none⟩),
    (8, [], ⟨some 12, .move (.tmp 0), none⟩),
    (9, [], ⟨some 13, .load 3 (.tmp 2), none⟩),
    (10, [], ⟨some 14, .indexAddr 25 (.tmp 12) (.tmp 13), none⟩),
    (11, [], ⟨some 15, .load 22 (.tmp 14), none⟩),
    (12, [], ⟨some 16, .indexAddr 25 (.tmp 4) (.tmp 5), none⟩),
    (13, [3], ⟨none, .store 22 (.tmp 16) (.tmp 11), none⟩),
    (14, [], ⟨some 17, .indexAddr 25 (.tmp 6) (.tmp 7), none⟩),
    (15, [], ⟨none, .store 22 (.tmp 17) (.tmp 15), none⟩)]
theorem at178 {args : List AV} {H : AH} {Q : AV → AH → Prop} (hl : args.length ≤ 18) (h : swp Tryz.prog s178 (fin Tryz.prog [] Q) (env0 args) H) : AC Tryz.prog 178 args H Q :=
  AC.of (pl178) Tryz.func178 rfl (by kernel_rfl) mixed (by kernel_rfl) (by kernel_rfl) rfl hl h
/-! ### function 179: codewright/matrix.eliminate$3 -/
def pl179 : Nat → Plan
  | 0 => [(0, []), (1, []), (2, []), (3, []), (4, []), (5, []), (6, []), (7, []), (8, [1]), (9, []), (10, [])]
  | _ => []
def s179 : SC :=
  .draw [(0, [], ⟨some 5, .move (.tmp 0), none⟩),
    (1, [], ⟨some 6, .load 3 (.tmp 3), none⟩),
    (2, [], ⟨some 7, .load 89 (.tmp 1), none⟩),
    (3, [], ⟨some 8, .load 3 (.tmp 2), none⟩),
    (4, [], ⟨some 9, .move (.tmp 0), none⟩),
    (5, [], ⟨some 10, .load 3 (.tmp 3), none⟩),
    (6, [], ⟨some 11, .indexAddr 25 (.tmp 9) (.tmp 10), none⟩),
    (7, [], ⟨some 12, .load 22 (.tmp 11), none⟩),
    (8, [1], ⟨some 13, .call { callee := .value (.func 162), args := #[.tmp 7, .tmp 8, .tmp 12], argTypes := #[89, 3, 22] }, none⟩),
    (9, [], ⟨some 14, .indexAddr 25 (.tmp 5) (.tmp 6), none⟩),
    (10, [], ⟨none, .store 22 (.tmp 14) (.tmp 13), none⟩)]
theorem at179 {args : List AV} {H : AH} {Q : AV → AH → Prop} (hl : args.length ≤ 15) (h : swp Tryz.prog s179 (fin Tryz.prog [] Q) (env0 args) H) : AC Tryz.prog 179 args H Q :=
  AC.of (pl179) Tryz.func179 rfl (by kernel_rfl) mixed (by kernel_rfl) (by kernel_rfl) rfl hl h
/-! ### function 180: codewright/matrix.eliminate$4 -/
def pl180 : Nat → Plan
  | 0 => [(0, []), (1, []), (2, []), (3, []), (4, []), (5, []), (6, []), (8, []), (9, []), (10, []), (11, []), (7, [0, 2, 4, 9, 11]), (12, [])]
  | _ => []
def s180 : SC :=
  .draw [(0, [], ⟨some 6, .load 89 (.tmp 1), none⟩),
    (1, [], ⟨some 7, .move (.tmp 0), none⟩),
    (2, [], ⟨some 8, .load 3 (.tmp 2), none⟩),
    (3, [], ⟨some 9, .indexAddr 25 (.tmp 7) (.tmp 8), none⟩),
    (4, [], ⟨some 10, .load 22 (.tmp 9), none⟩),
    (5, [], ⟨some 11, .load 89 (.tmp 1), none⟩),
    (6, [], ⟨some 12, .load 3 (.tmp 3), none⟩),
    (8, [], ⟨some 14, .move (.tmp 0), none⟩),
    (9, [], ⟨some 15, .load 3 (.tmp 4), none⟩),
    (10, [], ⟨some 16, .indexAddr 25 (.tmp 14) (.tmp 15), none⟩),
    (11, [], ⟨some 17, .load 22 (.tmp 16), none⟩),
    (7, [0, 2, 4, 9, 11], ⟨some 13, .call { callee := .value (.func 138), args := #[.tmp 11, .tmp 12], argTypes := #[89, 3] }, none⟩),
    (12, [], ⟨some 18, .call { callee := .value (.func 144), args := #[.tmp 6, .tmp 10, .tmp 13, .tmp 17], argTypes := #[89, 22, 3, 22] }, none⟩)]
theorem at180 {args : List AV} {H : AH} {Q : AV → AH → Prop} (hl : args.length ≤ 19) (h : swp Tryz.prog s180 (fin Tryz.prog [] Q) (env0 args) H) : AC Tryz.prog 180 args H Q :=
  AC.of (pl180) Tryz.func180 rfl (by kernel_rfl) mixed (by kernel_rfl) (by kernel_rfl) rfl hl h
/-! ### function 182: (*codewright/field.GF).in -/
def s182 : SC :=
  .seq (.reg [⟨some 4, .assign (.const (.int .i64 0)), none⟩]) (.seq (.seq (.reg [⟨some 5, .move (.tmp 0), none⟩,
    ⟨some 6, .move (.tmp 1), none⟩,
    ⟨some 7, .call { callee := .value (.func 141), args := #[.tmp 5, .tmp 6], argTypes := #[89, 3] }, none⟩]) (.cond (.tmp 7) (.seq (.reg [⟨some 8, .move (.tmp 1), none⟩,
    ⟨some 4, .assign (.tmp 8), none⟩]) .ret) .skip)) (.seq (.reg [⟨some 4, .assign (.const (.int .i64 0)), none⟩]) .ret))
theorem at182 {args : List AV} {H : AH} {Q : AV → AH → Prop} (hl : args.length ≤ 9) (h : swp Tryz.prog s182 (fin Tryz.prog [.tmp 4] Q) (env0 args) H) : AC Tryz.prog 182 args H Q :=
  AC.of (fun _ => []) Tryz.func182 rfl (by kernel_rfl) mixed (by kernel_rfl) (by kernel_rfl) rfl hl h
/-! ### function 183: (*codewright/field.GF).Add -/
def pl183 : Nat → Plan
  | 6 => [(0, []), (1, []), (2, []), (3, []), (4, []), (5, []), (6, []), (7, []), (8, []), (9, []), (10, []), (11, []), (12, []), (13, []), (14, []), (15, []), (16, []), (17, []), (18, []), (19, []), (20, []), (21, []), (22, []), (23, []), (24, []), (25, [])]
  | _ => []
def s183 : SC :=
  .seq (.reg [⟨some 6, .assign (.const (.int .i64 0)), none⟩]) (.seq (.reg [⟨some 9, .move (.tmp 0), none⟩,
    ⟨some 10, .move (.tmp 1), none⟩,
    ⟨some 11, .call { callee := .value (.func 182), args := #[.tmp 9, .tmp 10], argTypes := #[89, 3] }, none⟩,
    ⟨some 12, .move (.tmp 0), none⟩,
    ⟨some 13, .move (.tmp 2), none⟩,
    ⟨some 14, .call { callee := .value (.func 182), args := #[.tmp 12, .tmp 13], argTypes := #[89, 3] }, none⟩,
    ⟨some 1, .assign (.tmp 11), none⟩,
    ⟨some 2, .assign (.tmp 14), none⟩]) (.seq (.seq (.reg [⟨some 15, .move (.tmp 0), none⟩,
    ⟨some 16, .nilCheck (.tmp 15), none⟩,
    ⟨some 17, .fieldAddr 164 (.tmp 16) 0, none⟩,
    ⟨some 18, .fieldAddr 24 (.tmp 17) 0, none⟩,
    ⟨some 19, .load 3 (.tmp 18), none⟩,
    ⟨some 20, .binOp .eql 3 (.tmp 19) (.const (.int .i64 2)) 3, none⟩]) (.cond (.tmp 20) (.seq (.reg [⟨some 21, .move (.tmp 1), none⟩,
    ⟨some 22, .move (.tmp 2), none⟩,
    ⟨some 23, .binOp .xor 3 (.tmp 21) (.tmp 22) 3, none⟩,
    ⟨some 6, .assign (.tmp 23), none⟩]) .ret) .skip)) (.seq (.reg [⟨some 7, .assign (.const (.int .i64 0)), none⟩,
    ⟨some 8, .assign (.const (.int .i64 1)), none⟩]) (.seq (.block 0 (.loop (.seq (.seq (.reg [⟨some 24, .move (.tmp 1), none⟩,
    ⟨some 25, .binOp .gtr 3 (.tmp 24) (.const (.int .i64 0)) 3, none⟩,
    ⟨some 26, .move (.tmp 25), none⟩,
    ⟨some 27, .move (.tmp 2), some (26, false)⟩,
    ⟨some 28, .binOp .gtr 3 (.tmp 27) (.const (.int .i64 0)) 3, some (26, false)⟩,
    ⟨some 29, .pick (.tmp 26) (.const (.bool true)) (.tmp 28), none⟩]) (.cond (.tmp 29) .skip (.exit 0))) (.block 1 (.seq (.draw [(0, [], ⟨some 30, .move (.tmp 7), none⟩),
    (1, [], ⟨some 31, .move (.tmp 1), none⟩),
    (2, [], ⟨some 32, .move (.tmp 0), none⟩),
    (3, [], ⟨some 33, .nilCheck (.tmp 32), none⟩),
    (4, [], ⟨some 34, .fieldAddr 164 (.tmp 33) 0, none⟩),
    (5, [], ⟨some 35, .fieldAddr 24 (.tmp 34) 0, none⟩),
    (6, [], ⟨some 36, .load 3 (.tmp 35), none⟩),
    (7, [], ⟨some 37, .binOp .rem 3 (.tmp 31) (.tmp 36) 3, none⟩),
    (8, [], ⟨some 38, .move (.tmp 2), none⟩),
    (9, [], ⟨some 39, .move (.tmp 0), none⟩),
    (10, [], ⟨some 40, .nilCheck (.tmp 39), none⟩),
    (11, [], ⟨some 41, .fieldAddr 164 (.tmp 40) 0, none⟩),
    (12, [], ⟨some 42, .fieldAddr 24 (.tmp 41) 0, none⟩),
    (13, [], ⟨some 43, .load 3 (.tmp 42), none⟩),
    (14, [], ⟨some 44, .binOp .rem 3 (.tmp 38) (.tmp 43) 3, none⟩),
    (15, [], ⟨some 45, .binOp .add 3 (.tmp 37) (.tmp 44) 3, none⟩),
    (16, [], ⟨some 46, .move (.tmp 0), none⟩),
    (17, [], ⟨some 47, .nilCheck (.tmp 46), none⟩),
    (18, [], ⟨some 48, .fieldAddr 164 (.tmp 47) 0, none⟩),
    (19, [], ⟨some 49, .fieldAddr 24 (.tmp 48) 0, none⟩),
    (20, [], ⟨some 50, .load 3 (.tmp 49), none⟩),
    (21, [], ⟨some 51, .binOp .rem 3 (.tmp 45) (.tmp 50) 3, none⟩),
    (22, [], ⟨some 52, .move (.tmp 8), none⟩),
    (23, [], ⟨some 53, .binOp .mul 3 (.tmp 51) (.tmp 52) 3, none⟩),
    (24, [], ⟨some 54, .binOp .add 3 (.tmp 30) (.tmp 53) 3, none⟩),
    (25, [], ⟨some 7, .assign (.tmp 54), none⟩)]) (.seq (.reg [⟨some 55, .move (.tmp 8), none⟩,
    ⟨some 56, .move (.tmp 0), none⟩,
    ⟨some 57, .nilCheck (.tmp 56), none⟩,
    ⟨some 58, .fieldAddr 164 (.tmp 57) 0, none⟩,
    ⟨some 59, .fieldAddr 24 (.tmp 58) 0, none⟩,
    ⟨some 60, .load 3 (.tmp 59), none⟩,
    ⟨some 61, .binOp .mul 3 (.tmp 55) (.tmp 60) 3, none⟩,
    ⟨some 8, .assign (.tmp 61), none⟩]) (.seq (.reg [⟨some 62, .move (.tmp 1), none⟩,
    ⟨some 63, .move (.tmp 0), none⟩,
    ⟨some 64, .nilCheck (.tmp 63), none⟩,
    ⟨some 65, .fieldAddr 164 (.tmp 64) 0, none⟩,
    ⟨some 66, .fieldAddr 24 (.tmp 65) 0, none⟩,
    ⟨some 67, .load 3 (.tmp 66), none⟩,
    ⟨some 68, .binOp .quo 3 (.tmp 62) (.tmp 67) 3, none⟩,
    ⟨some 1, .assign (.tmp 68), none⟩]) (.reg [⟨some 69, .move (.tmp 2), none⟩,
    ⟨some 70, .move (.tmp 0), none⟩,
    ⟨some 71, .nilCheck (.tmp 70), none⟩,
    ⟨some 72, .fieldAddr 164 (.tmp 71) 0, none⟩,
    ⟨some 73, .fieldAddr 24 (.tmp 72) 0, none⟩,
    ⟨some 74, .load 3 (.tmp 73), none⟩,
    ⟨some 75, .binOp .quo 3 (.tmp 69) (.tmp 74) 3, none⟩,
    ⟨some 2, .assign (.tmp 75), none⟩])))))))) (.seq (.reg [⟨some 76, .move (.tmp 7), none⟩,
    ⟨some 6, .assign (.tmp 76), none⟩]) .ret)))))
theorem at183 {args : List AV} {H : AH} {Q : AV → AH → Prop} (hl : args.length ≤ 77) (h : swp Tryz.prog s183 (fin Tryz.prog [.tmp 6] Q) (env0 args) H) : AC Tryz.prog 183 args H Q :=
  AC.of (pl183) Tryz.func183 rfl (by kernel_rfl) mixed (by kernel_rfl) (by kernel_rfl) rfl hl h
/-! ### function 184: codewright/field.isPrime -/
def s184 : SC :=
  .seq (.reg [⟨some 2, .assign (.const (.bool false)), none⟩]) (.seq (.seq (.reg [⟨some 3, .assign (.const (.int .i64 2)), none⟩]) (.block 0 (.loop (.seq (.seq (.reg [⟨some 4, .move (.tmp 3), none⟩,
    ⟨some 5, .move (.tmp 3), none⟩,
    ⟨some 6, .binOp .mul 3 (.tmp 4) (.tmp 5) 3, none⟩,
    ⟨some 7, .move (.tmp 0), none⟩,
    ⟨some 8, .binOp .leq 3 (.tmp 6) (.tmp 7) 3, none⟩]) (.cond (.tmp 8) .skip (.exit 0))) (.seq (.block 1 (.seq (.reg [⟨some 11, .move (.tmp 0), none⟩,
    ⟨some 12, .move (.tmp 3), none⟩,
    ⟨some 13, .binOp .rem 3 (.tmp 11) (.tmp 12) 3, none⟩,
    ⟨some 14, .binOp .eql 3 (.tmp 13) (.const (.int .i64 0)) 3, none⟩]) (.cond (.tmp 14) (.seq (.reg [⟨some 2, .assign (.const (.bool false)), none⟩]) .ret) .skip))) (.reg [⟨some 9, .move (.tmp 3), none⟩,
    ⟨some 10, .binOp .add 3 (.tmp 9) (.const (.int .i64 1)) 3, none⟩,
    ⟨some 3, .assign (.tmp 10), none⟩])))))) (.seq (.reg [⟨some 15, .move (.tmp 0), none⟩,
    ⟨some 16, .binOp .geq 3 (.tmp 15) (.const (.int .i64 2)) 3, none⟩,
    ⟨some 2, .assign (.tmp 16), none⟩]) .ret))
theorem at184 {args : List AV} {H : AH} {Q : AV → AH → Prop} (hl : args.length ≤ 17) (h : swp Tryz.prog s184 (fin Tryz.prog [.tmp 2] Q) (env0 args) H) : AC Tryz.prog 184 args H Q :=
  AC.of (fun _ => []) Tryz.func184 rfl (by kernel_rfl) mixed (by kernel_rfl) (by kernel_rfl) rfl hl h
/-! ### function 185: codewright/field.powers -/
def s185 : SC :=
  .seq (.reg [⟨some 3, .box 24 (.tmp 0), none⟩,
    ⟨some 6, .assign (.const (.slice none 0 0)), none⟩]) (.seq (.reg [⟨some 10, .buildSlice 22 1 #[(0, .const (.int .i64 1))], none⟩,
    ⟨some 7, .assign (.tmp 10), none⟩]) (.seq (.reg [⟨some 11, .move (.tmp 1), none⟩,
    ⟨some 12, .makeSlice 58 (.tmp 11) (.tmp 11), none⟩,
    ⟨some 8, .assign (.tmp 12), none⟩]) (.seq (.reg [⟨some 13, .move (.tmp 8), none⟩,
    ⟨some 14, .indexAddr 58 (.tmp 13) (.const (.int .i64 1)), none⟩,
    ⟨none, .store 4 (.tmp 14) (.const (.bool true)), none⟩]) (.seq (.seq (.reg [⟨some 15, .move (.tmp 2), none⟩,
    ⟨some 9, .assign (.tmp 15), none⟩]) (.block 0 (.loop (.seq (.seq (.reg [⟨some 16, .move (.tmp 9), none⟩,
    ⟨some 17, .binOp .neq 3 (.tmp 16) (.const (.int .i64 0)) 3, none⟩,
    ⟨some 18, .move (.tmp 17), none⟩,
    ⟨some 19, .move (.tmp 8), some (18, true)⟩,
    ⟨some 20, .move (.tmp 9), some (18, true)⟩,
    ⟨some 21, .indexAddr 58 (.tmp 19) (.tmp 20), some (18, true)⟩,
    ⟨some 22, .load 4 (.tmp 21), some (18, true)⟩,
    ⟨some 23, .unOp .not 4 (.tmp 22), some (18, true)⟩,
    ⟨some 24, .pick (.tmp 18) (.tmp 23) (.const (.bool false)), none⟩]) (.cond (.tmp 24) .skip (.exit 0))) (.seq (.block 1 (.seq (.reg [⟨some 29, .move (.tmp 8), none⟩,
    ⟨some 30, .move (.tmp 9), none⟩,
    ⟨some 31, .indexAddr 58 (.tmp 29) (.tmp 30), none⟩,
    ⟨none, .store 4 (.tmp 31) (.const (.bool true)), none⟩]) (.reg [⟨some 32, .move (.tmp 7), none⟩,
    ⟨some 33, .move (.tmp 9), none⟩,
    ⟨some 34, .buildSlice 22 1 #[(0, .tmp 33)], none⟩,
    ⟨some 35, .call { callee := .builtin .append, args := #[.tmp 32, .tmp 34], argTypes := #[22, 22] }, none⟩,
    ⟨some 7, .assign (.tmp 35), none⟩]))) (.reg [⟨some 25, .load 24 (.tmp 3), none⟩,
    ⟨some 26, .move (.tmp 9), none⟩,
    ⟨some 27, .move (.tmp 2), none⟩,
    ⟨some 28, .call { callee := .value (.func 186), args := #[.tmp 25, .tmp 26, .tmp 27], argTypes := #[24, 3, 3] }, none⟩,
    ⟨some 9, .assign (.tmp 28), none⟩])))))) (.seq (.reg [⟨some 36, .move (.tmp 7), none⟩,
    ⟨some 6, .assign (.tmp 36), none⟩]) .ret)))))
theorem at185 {args : List AV} {H : AH} {Q : AV → AH → Prop} (hl : args.length ≤ 37) (h : swp Tryz.prog s185 (fin Tryz.prog [.tmp 6] Q) (env0 args) H) : AC Tryz.prog 185 args H Q :=
  AC.of (fun _ => []) Tryz.func185 rfl (by kernel_rfl) mixed (by kernel_rfl) (by kernel_rfl) rfl hl h
/-! ### function 186: codewright/field.multiply -/
def pl186 : Nat → Plan
  | 1 => [(0, []), (1, []), (2, []), (3, []), (4, []), (6, []), (7, []), (8, []), (9, []), (10, []), (5, [8, 10]), (11, []), (12, []), (13, [])]
  | 7 => [(0, []), (1, []), (2, []), (3, []), (4, []), (5, []), (6, []), (7, [])]
  | 15 => [(0, []), (1, []), (2, []), (3, []), (4, []), (5, []), (6, []), (7, []), (8, []), (9, []), (10, []), (11, []), (12, []), (13, []), (14, []), (15, []), (16, []), (17, []), (18, []), (19, []), (20, []), (21, []), (22, []), (23, []), (24, []), (25, []), (26, []), (27, [])]
  | _ => []
def s186 : SC :=
  .seq (.reg [⟨some 3, .box 24 (.tmp 0), none⟩,
    ⟨some 6, .assign (.const (.int .i64 0)), none⟩]) (.seq (.draw [(0, [], ⟨some 14, .move (.tmp 1), none⟩),
    (1, [], ⟨some 15, .fieldAddr 24 (.tmp 3) 0, none⟩),
    (2, [], ⟨some 16, .load 3 (.tmp 15), none⟩),
    (3, [], ⟨some 17, .fieldAddr 24 (.tmp 3) 1, none⟩),
    (4, [], ⟨some 18, .load 3 (.tmp 17), none⟩),
    (6, [], ⟨some 20, .move (.tmp 2), none⟩),
    (7, [], ⟨some 21, .fieldAddr 24 (.tmp 3) 0, none⟩),
    (8, [], ⟨some 22, .load 3 (.tmp 21), none⟩),
    (9, [], ⟨some 23, .fieldAddr 24 (.tmp 3) 1, none⟩),
    (10, [], ⟨some 24, .load 3 (.tmp 23), none⟩),
    (5, [8, 10], ⟨some 19, .call { callee := .value (.func 200), args := #[.tmp 14, .tmp 16, .tmp 18], argTypes := #[3, 3, 3] }, none⟩),
    (11, [], ⟨some 25, .call { callee := .value (.func 200), args := #[.tmp 20, .tmp 22, .tmp 24], argTypes := #[3, 3, 3] }, none⟩),
    (12, [], ⟨some 7, .assign (.tmp 19), none⟩),
    (13, [], ⟨some 8, .assign (.tmp 25), none⟩)]) (.seq (.reg [⟨some 26, .fieldAddr 24 (.tmp 3) 1, none⟩,
    ⟨some 27, .load 3 (.tmp 26), none⟩,
    ⟨some 28, .makeSlice 22 (.tmp 27) (.tmp 27), none⟩,
    ⟨some 9, .assign (.tmp 28), none⟩]) (.seq (.seq (.reg [⟨some 29, .fieldAddr 24 (.tmp 3) 1, none⟩,
    ⟨some 30, .load 3 (.tmp 29), none⟩,
    ⟨some 31, .binOp .sub 3 (.tmp 30) (.const (.int .i64 1)) 3, none⟩,
    ⟨some 10, .assign (.tmp 31), none⟩]) (.block 0 (.loop (.seq (.seq (.reg [⟨some 32, .move (.tmp 10), none⟩,
    ⟨some 33, .binOp .geq 3 (.tmp 32) (.const (.int .i64 0)) 3, none⟩]) (.cond (.tmp 33) .skip (.exit 0))) (.seq (.block 1 (.seq (.reg [⟨some 36, .move (.tmp 9), none⟩,
    ⟨some 37, .fieldAddr 24 (.tmp 3) 1, none⟩,
    ⟨some 38, .load 3 (.tmp 37), none⟩,
    ⟨some 39, .binOp .sub 3 (.tmp 38) (.const (.int .i64 1)) 3, none⟩,
    ⟨some 40, .indexAddr 22 (.tmp 36) (.tmp 39), none⟩,
    ⟨some 41, .load 3 (.tmp 40), none⟩,
    ⟨some 11, .assign (.tmp 41), none⟩]) (.seq (.draw [(0, [], ⟨some 42, .move (.tmp 9), none⟩),
    (1, [], ⟨some 43, .slice 22 (.tmp 42) (some (.const (.int .i64 1))) none none, none⟩),
    (2, [], ⟨some 44, .move (.tmp 9), none⟩),
    (3, [], ⟨some 45, .fieldAddr 24 (.tmp 3) 1, none⟩),
    (4, [], ⟨some 46, .load 3 (.tmp 45), none⟩),
    (5, [], ⟨some 47, .binOp .sub 3 (.tmp 46) (.const (.int .i64 1)) 3, none⟩),
    (6, [], ⟨some 48, .slice 22 (.tmp 44) none (some (.tmp 47)) none, none⟩),
    (7, [], ⟨some 49, .call { callee := .builtin .copy, args := #[.tmp 43, .tmp 48], argTypes := #[22, 22] }, none⟩)]) (.seq (.reg [⟨some 50, .move (.tmp 9), none⟩,
    ⟨some 51, .indexAddr 22 (.tmp 50) (.const (.int .i64 0)), none⟩,
    ⟨none, .store 3 (.tmp 51) (.const (.int .i64 0)), none⟩]) (.seq (.reg [⟨some 52, .move (.tmp 9), none⟩,
    ⟨some 53, .call { callee := .builtin .len, args := #[.tmp 52], argTypes := #[22] }, none⟩,
    ⟨some 54, .move (.const (.int .i64 0)), none⟩]) (.block 2 (.loop (.seq (.reg [⟨some 55, .binOp .lss 3 (.tmp 54) (.tmp 53) 3, none⟩]) (.seq (.cond (.tmp 55) .skip (.exit 2)) (.seq (.block 3 (.seq (.reg [⟨some 56, .move (.tmp 54), none⟩,
    ⟨some 12, .assign (.tmp 56), none⟩]) (.seq (.reg [⟨some 13, .assign (.const (.int .i64 0)), none⟩]) (.seq (.seq (.reg [⟨some 57, .fieldAddr 24 (.tmp 3) 1, none⟩,
    ⟨some 58, .load 3 (.tmp 57), none⟩,
    ⟨some 59, .binOp .gtr 3 (.tmp 58) (.const (.int .i64 1)) 3, none⟩]) (.cond (.tmp 59) (.reg [⟨some 60, .fieldAddr 24 (.tmp 3) 2, none⟩,
    ⟨some 61, .load 22 (.tmp 60), none⟩,
    ⟨some 62, .move (.tmp 12), none⟩,
    ⟨some 63, .indexAddr 22 (.tmp 61) (.tmp 62), none⟩,
    ⟨some 64, .load 3 (.tmp 63), none⟩,
    ⟨some 13, .assign (.tmp 64), none⟩]) .skip)) (.draw [(0, [], ⟨some 65, .move (.tmp 9), none⟩),
    (1, [], ⟨some 66, .move (.tmp 12), none⟩),
    (2, [], ⟨some 67, .move (.tmp 9), none⟩),
    (3, [], ⟨some 68, .move (.tmp 12), none⟩),
    (4, [], ⟨some 69, .indexAddr 22 (.tmp 67) (.tmp 68), none⟩),
    (5, [], ⟨some 70, .load 3 (.tmp 69), none⟩),
    (6, [], ⟨some 71, .fieldAddr 24 (.tmp 3) 0, none⟩),
    (7, [], ⟨some 72, .load 3 (.tmp 71), none⟩),
    (8, [], ⟨some 73, .move (.tmp 11), none⟩),
    (9, [], ⟨some 74, .binOp .sub 3 (.tmp 72) (.tmp 73) 3, none⟩),
    (10, [], ⟨some 75, .move (.tmp 13), none⟩),
    (11, [], ⟨some 76, .binOp .mul 3 (.tmp 74) (.tmp 75) 3, none⟩),
    (12, [], ⟨some 77, .binOp .add 3 (.tmp 70) (.tmp 76) 3, none⟩),
    (13, [], ⟨some 78, .move (.tmp 8), none⟩),
    (14, [], ⟨some 79, .move (.tmp 10), none⟩),
    (15, [], ⟨some 80, .indexAddr 22 (.tmp 78) (.tmp 79), none⟩),
    (16, [], ⟨some 81, .load 3 (.tmp 80), none⟩),
    (17, [], ⟨some 82, .move (.tmp 7), none⟩),
    (18, [], ⟨some 83, .move (.tmp 12), none⟩),
    (19, [], ⟨some 84, .indexAddr 22 (.tmp 82) (.tmp 83), none⟩),
    (20, [], ⟨some 85, .load 3 (.tmp 84), none⟩),
    (21, [], ⟨some 86, .binOp .mul 3 (.tmp 81) (.tmp 85) 3, none⟩),
    (22, [], ⟨some 87, .binOp .add 3 (.tmp 77) (.tmp 86) 3, none⟩),
    (23, [], ⟨some 88, .fieldAddr 24 (.tmp 3) 0, none⟩),
    (24, [], ⟨some 89, .load 3 (.tmp 88), none⟩),
    (25, [], ⟨some 90, .binOp .rem 3 (.tmp 87) (.tmp 89) 3, none⟩),
    (26, [], ⟨some 91, .indexAddr 22 (.tmp 65) (.tmp 66), none⟩),
    (27, [], ⟨none, .store 3 (.tmp 91) (.tmp 90), none⟩)]))))) (.reg [⟨some 92, .binOp .add 3 (.tmp 54) (.const (.int .i64 1)) 3, none⟩,
    ⟨some 54, .move (.tmp 92), none⟩]))))))))))) (.reg [⟨some 34, .move (.tmp 10), none⟩,
    ⟨some 35, .binOp .sub 3 (.tmp 34) (.const (.int .i64 1)) 3, none⟩,
    ⟨some 10, .assign (.tmp 35), none⟩])))))) (.seq (.reg [⟨some 93, .move (.tmp 9), none⟩,
    ⟨some 94, .fieldAddr 24 (.tmp 3) 0, none⟩,
    ⟨some 95, .load 3 (.tmp 94), none⟩,
    ⟨some 96, .call { callee := .value (.func 201), args := #[.tmp 93, .tmp 95], argTypes := #[22, 3] }, none⟩,
    ⟨some 6, .assign (.tmp 96), none⟩]) .ret))))
theorem at186 {args : List AV} {H : AH} {Q : AV → AH → Prop} (hl : args.length ≤ 97) (h : swp Tryz.prog s186 (fin Tryz.prog [.tmp 6] Q) (env0 args) H) : AC Tryz.prog 186 args H Q :=
  AC.of (pl186) Tryz.func186 rfl (by kernel_rfl) mixed (by kernel_rfl) (by kernel_rfl) rfl hl h
/-! ### function 187: codewright/codewrightref09.Copy -/
def s187 : SC :=
  .seq (.reg [⟨some 2, .assign (.const (.slice none 0 0)), none⟩]) (.seq (.reg [⟨some 3, .assign (.const (.slice none 0 0)), none⟩]) (.seq (.seq (.reg [⟨some 4, .assign (.const (.int .i64 0)), none⟩]) (.block 0 (.loop (.seq (.seq (.reg [⟨some 5, .move (.tmp 4), none⟩,
    ⟨some 6, .move (.tmp 0), none⟩,
    ⟨some 7, .call { callee := .builtin .len, args := #[.tmp 6], argTypes := #[25] }, none⟩,
    ⟨some 8, .binOp .lss 3 (.tmp 5) (.tmp 7) 3, none⟩]) (.cond (.tmp 8) .skip (.exit 0))) (.seq (.block 1 (.reg [⟨some 11, .move (.tmp 3), none⟩,
    ⟨some 12, .buildSlice 22 0 #[], none⟩,
    ⟨some 13, .move (.tmp 0), none⟩,
    ⟨some 14, .move (.tmp 4), none⟩,
    ⟨some 15, .indexAddr 25 (.tmp 13) (.tmp 14), none⟩,
    ⟨some 16, .load 22 (.tmp 15), none⟩,
    ⟨some 17, .call { callee := .builtin .append, args := #[.tmp 12, .tmp 16], argTypes := #[22, 22] }, none⟩,
    ⟨some 18, .buildSlice 25 1 #[(0, .tmp 17)], none⟩,
    ⟨some 19, .call { callee := .builtin .append, args := #[.tmp 11, .tmp 18], argTypes := #[25, 25] }, none⟩,
    ⟨some 3, .assign (.tmp 19), none⟩])) (.reg [⟨some 9, .move (.tmp 4), none⟩,
    ⟨some 10, .binOp .add 3 (.tmp 9) (.const (.int .i64 1)) 3, none⟩,
    ⟨some 4, .assign (.tmp 10), none⟩])))))) (.seq (.reg [⟨some 20, .move (.tmp 3), none⟩,
    ⟨some 2, .assign (.tmp 20), none⟩]) .ret)))
theorem at187 {args : List AV} {H : AH} {Q : AV → AH → Prop} (hl : args.length ≤ 21) (h : swp Tryz.prog s187 (fin Tryz.prog [.tmp 2] Q) (env0 args) H) : AC Tryz.prog 187 args H Q :=
  AC.of (fun _ => []) Tryz.func187 rfl (by kernel_rfl) mixed (by kernel_rfl) (by kernel_rfl) rfl hl h
/-! ### function 188: codewright/codewrightref09.scale -/
def pl188 : Nat → Plan
  | 5 => [(0, []), (1, []), (2, []), (3, []), (4, []), (5, []), (6, []), (7, []), (8, []), (9, []), (10, [])]
  | _ => []
def s188 : SC :=
  .seq (.reg [⟨some 3, .box 24 (.tmp 0), none⟩,
    ⟨some 6, .assign (.const (.slice none 0 0)), none⟩]) (.seq (.reg [⟨some 9, .move (.tmp 2), none⟩,
    ⟨some 10, .call { callee := .builtin .len, args := #[.tmp 9], argTypes := #[22] }, none⟩,
    ⟨some 11, .makeSlice 22 (.tmp 10) (.tmp 10), none⟩,
    ⟨some 7, .assign (.tmp 11), none⟩]) (.seq (.seq (.reg [⟨some 8, .assign (.const (.int .i64 0)), none⟩]) (.block 0 (.loop (.seq (.seq (.reg [⟨some 12, .move (.tmp 8), none⟩,
    ⟨some 13, .move (.tmp 2), none⟩,
    ⟨some 14, .call { callee := .builtin .len, args := #[.tmp 13], argTypes := #[22] }, none⟩,
    ⟨some 15, .binOp .lss 3 (.tmp 12) (.tmp 14) 3, none⟩]) (.cond (.tmp 15) .skip (.exit 0))) (.seq (.block 1 (.draw [(0, [], ⟨some 18, .move (.tmp 7), none⟩),
    (1, [], ⟨some 19, .move (.tmp 8), none⟩),
    (2, [], ⟨some 20, .load 24 (.tmp 3), none⟩),
    (3, [], ⟨some 21, .move (.tmp 1), none⟩),
    (4, [], ⟨some 22, .move (.tmp 2), none⟩),
    (5, [], ⟨some 23, .move (.tmp 8), none⟩),
    (6, [], ⟨some 24, .indexAddr 22 (.tmp 22) (.tmp 23), none⟩),
    (7, [], ⟨some 25, .load 3 (.tmp 24), none⟩),
    (8, [], ⟨some 26, .call { callee := .value (.func 151), args := #[.tmp 20, .tmp 21, .tmp 25], argTypes := #[24, 3, 3] }, none⟩),
    (9, [], ⟨some 27, .indexAddr 22 (.tmp 18) (.tmp 19), none⟩),
    (10, [], ⟨none, .store 3 (.tmp 27) (.tmp 26), none⟩)])) (.reg [⟨some 16, .move (.tmp 8), none⟩,
    ⟨some 17, .binOp .add 3 (.tmp 16) (.const (.int .i64 1)) 3, none⟩,
    ⟨some 8, .assign (.tmp 17), none⟩])))))) (.seq (.reg [⟨some 28, .move (.tmp 7), none⟩,
    ⟨some 6, .assign (.tmp 28), none⟩]) .ret)))
theorem at188 {args : List AV} {H : AH} {Q : AV → AH → Prop} (hl : args.length ≤ 29) (h : swp Tryz.prog s188 (fin Tryz.prog [.tmp 6] Q) (env0 args) H) : AC Tryz.prog 188 args H Q :=
  AC.of (pl188) Tryz.func188 rfl (by kernel_rfl) mixed (by kernel_rfl) (by kernel_rfl) rfl hl h
/-! ### function 189: codewright/codewrightref04.Inv -/
def s189 : SC :=
  .seq (.reg [⟨some 2, .box 24 (.tmp 0), none⟩,
    ⟨some 4, .assign (.const (.int .i64 0)), none⟩]) (.seq (.seq (.reg [⟨some 5, .assign (.const (.int .i64 1)), none⟩]) (.block 0 (.loop (.seq (.seq (.reg [⟨some 6, .move (.tmp 5), none⟩,
    ⟨some 7, .load 24 (.tmp 2), none⟩,
    ⟨some 8, .call { callee := .value (.func 125), args := #[.tmp 7], argTypes := #[24] }, none⟩,
    ⟨some 9, .binOp .lss 3 (.tmp 6) (.tmp 8) 3, none⟩]) (.cond (.tmp 9) .skip (.exit 0))) (.seq (.block 1 (.seq (.reg [⟨some 12, .load 24 (.tmp 2), none⟩,
    ⟨some 13, .move (.tmp 1), none⟩,
    ⟨some 14, .move (.tmp 5), none⟩,
    ⟨some 15, .call { callee := .value (.func 151), args := #[.tmp 12, .tmp 13, .tmp 14], argTypes := #[24, 3, 3] }, none⟩,
    ⟨some 16, .binOp .eql 3 (.tmp 15) (.const (.int .i64 1)) 3, none⟩]) (.cond (.tmp 16) (.seq (.reg [⟨some 17, .move (.tmp 5), none⟩,
    ⟨some 4, .assign (.tmp 17), none⟩]) .ret) .skip))) (.reg [⟨some 10, .move (.tmp 5), none⟩,
    ⟨some 11, .binOp .add 3 (.tmp 10) (.const (.int .i64 1)) 3, none⟩,
    ⟨some 5, .assign (.tmp 11), none⟩])))))) (.seq (.reg [⟨some 4, .assign (.const (.int .i64 0)), none⟩]) .ret))
theorem at189 {args : List AV} {H : AH} {Q : AV → AH → Prop} (hl : args.length ≤ 18) (h : swp Tryz.prog s189 (fin Tryz.prog [.tmp 4] Q) (env0 args) H) : AC Tryz.prog 189 args H Q :=
  AC.of (fun _ => []) Tryz.func189 rfl (by kernel_rfl) mixed (by kernel_rfl) (by kernel_rfl) rfl hl h
/-! ### function 190: codewright/codewrightref04.Neg -/
def pl190 : Nat → Plan
  | 5 => [(0, []), (1, []), (2, []), (3, []), (4, []), (5, []), (6, []), (7, []), (8, []), (9, []), (10, []), (11, []), (12, []), (13, [])]
  | _ => []
def s190 : SC :=
  .seq (.reg [⟨some 2, .box 24 (.tmp 0), none⟩,
    ⟨some 4, .assign (.const (.int .i64 0)), none⟩]) (.seq (.reg [⟨some 7, .load 24 (.tmp 2), none⟩,
    ⟨some 8, .move (.tmp 1), none⟩,
    ⟨some 9, .call { callee := .value (.func 191), args := #[.tmp 7, .tmp 8], argTypes := #[24, 3] }, none⟩,
    ⟨some 5, .assign (.tmp 9), none⟩]) (.seq (.seq (.reg [⟨some 6, .assign (.const (.int .i64 0)), none⟩]) (.block 0 (.loop (.seq (.seq (.reg [⟨some 10, .move (.tmp 6), none⟩,
    ⟨some 11, .move (.tmp 5), none⟩,
    ⟨some 12, .call { callee := .builtin .len, args := #[.tmp 11], argTypes := #[22] }, none⟩,
    ⟨some 13, .binOp .lss 3 (.tmp 10) (.tmp 12) 3, none⟩]) (.cond (.tmp 13) .skip (.exit 0))) (.seq (.block 1 (.draw [(0, [], ⟨some 16, .move (.tmp 5), none⟩),
    (1, [], ⟨some 17, .move (.tmp 6), none⟩),
    (2, [], ⟨some 18, .fieldAddr 24 (.tmp 2) 0, none⟩),
    (3, [], ⟨some 19, .load 3 (.tmp 18), none⟩),
    (4, [], ⟨some 20, .move (.tmp 5), none⟩),
    (5, [], ⟨some 21, .move (.tmp 6), none⟩),
    (6, [], ⟨some 22, .indexAddr 22 (.tmp 20) (.tmp 21), none⟩),
    (7, [], ⟨some 23, .load 3 (.tmp 22), none⟩),
    (8, [], ⟨some 24, .binOp .sub 3 (.tmp 19) (.tmp 23) 3, none⟩),
    (9, [], ⟨some 25, .fieldAddr 24 (.tmp 2) 0, none⟩),
    (10, [], ⟨some 26, .load 3 (.tmp 25), none⟩),
    (11, [], ⟨some 27, .binOp .rem 3 (.tmp 24) (.tmp 26) 3, none⟩),
    (12, [], ⟨some 28, .indexAddr 22 (.tmp 16) (.tmp 17), none⟩),
    (13, [], ⟨none, .store 3 (.tmp 28) (.tmp 27), none⟩)])) (.reg [⟨some 14, .move (.tmp 6), none⟩,
    ⟨some 15, .binOp .add 3 (.tmp 14) (.const (.int .i64 1)) 3, none⟩,
    ⟨some 6, .assign (.tmp 15), none⟩])))))) (.seq (.reg [⟨some 29, .load 24 (.tmp 2), none⟩,
    ⟨some 30, .move (.tmp 5), none⟩,
    ⟨some 31, .call { callee := .value (.func 192), args := #[.tmp 29, .tmp 30], argTypes := #[24, 22] }, none⟩,
    ⟨some 4, .assign (.tmp 31), none⟩]) .ret)))
theorem at190 {args : List AV} {H : AH} {Q : AV → AH → Prop} (hl : args.length ≤ 32) (h : swp Tryz.prog s190 (fin Tryz.prog [.tmp 4] Q) (env0 args) H) : AC Tryz.prog 190 args H Q :=
  AC.of (pl190) Tryz.func190 rfl (by kernel_rfl) mixed (by kernel_rfl) (by kernel_rfl) rfl hl h
/-! ### function 191: codewright/codewrightref04.Digits -/
def pl191 : Nat → Plan
  | 1 => [(0, []), (1, []), (3, []), (4, []), (5, []), (6, []), (2, [4, 6]), (7, []), (8, [])]
  | _ => []
def s191 : SC :=
  .seq (.reg [⟨some 2, .box 24 (.tmp 0), none⟩,
    ⟨some 4, .assign (.const (.slice none 0 0)), none⟩]) (.seq (.draw [(0, [], ⟨some 5, .load 24 (.tmp 2), none⟩),
    (1, [], ⟨some 6, .move (.tmp 1), none⟩),
    (3, [], ⟨some 8, .fieldAddr 24 (.tmp 2) 0, none⟩),
    (4, [], ⟨some 9, .load 3 (.tmp 8), none⟩),
    (5, [], ⟨some 10, .fieldAddr 24 (.tmp 2) 1, none⟩),
    (6, [], ⟨some 11, .load 3 (.tmp 10), none⟩),
    (2, [4, 6], ⟨some 7, .call { callee := .value (.func 202), args := #[.tmp 5, .tmp 6], argTypes := #[24, 3] }, none⟩),
    (7, [], ⟨some 12, .call { callee := .value (.func 176), args := #[.tmp 7, .tmp 9, .tmp 11], argTypes := #[3, 3, 3] }, none⟩),
    (8, [], ⟨some 4, .assign (.tmp 12), none⟩)]) .ret)
theorem at191 {args : List AV} {H : AH} {Q : AV → AH → Prop} (hl : args.length ≤ 13) (h : swp Tryz.prog s191 (fin Tryz.prog [.tmp 4] Q) (env0 args) H) : AC Tryz.prog 191 args H Q :=
  AC.of (pl191) Tryz.func191 rfl (by kernel_rfl) mixed (by kernel_rfl) (by kernel_rfl) rfl hl h
/-! ### function 192: codewright/codewrightref04.Value -/
def pl192 : Nat → Plan
  | 5 => [(0, []), (1, []), (2, []), (3, []), (4, []), (5, []), (6, []), (7, []), (8, []), (9, [])]
  | _ => []
def s192 : SC :=
  .seq (.reg [⟨some 2, .box 24 (.tmp 0), none⟩,
    ⟨some 4, .assign (.const (.int .i64 0)), none⟩]) (.seq (.reg [⟨some 5, .assign (.const (.int .i64 0)), none⟩]) (.seq (.seq (.reg [⟨some 7, .move (.tmp 1), none⟩,
    ⟨some 8, .call { callee := .builtin .len, args := #[.tmp 7], argTypes := #[22] }, none⟩,
    ⟨some 9, .binOp .sub 3 (.tmp 8) (.const (.int .i64 1)) 3, none⟩,
    ⟨some 6, .assign (.tmp 9), none⟩]) (.block 0 (.loop (.seq (.seq (.reg [⟨some 10, .move (.tmp 6), none⟩,
    ⟨some 11, .binOp .geq 3 (.tmp 10) (.const (.int .i64 0)) 3, none⟩]) (.cond (.tmp 11) .skip (.exit 0))) (.seq (.block 1 (.draw [(0, [], ⟨some 14, .move (.tmp 5), none⟩),
    (1, [], ⟨some 15, .fieldAddr 24 (.tmp 2) 0, none⟩),
    (2, [], ⟨some 16, .load 3 (.tmp 15), none⟩),
    (3, [], ⟨some 17, .binOp .mul 3 (.tmp 14) (.tmp 16) 3, none⟩),
    (4, [], ⟨some 18, .move (.tmp 1), none⟩),
    (5, [], ⟨some 19, .move (.tmp 6), none⟩),
    (6, [], ⟨some 20, .indexAddr 22 (.tmp 18) (.tmp 19), none⟩),
    (7, [], ⟨some 21, .load 3 (.tmp 20), none⟩),
    (8, [], ⟨some 22, .binOp .add 3 (.tmp 17) (.tmp 21) 3, none⟩),
    (9, [], ⟨some 5, .assign (.tmp 22), none⟩)])) (.reg [⟨some 12, .move (.tmp 6), none⟩,
    ⟨some 13, .binOp .sub 3 (.tmp 12) (.const (.int .i64 1)) 3, none⟩,
    ⟨some 6, .assign (.tmp 13), none⟩])))))) (.seq (.reg [⟨some 23, .move (.tmp 5), none⟩,
    ⟨some 4, .assign (.tmp 23), none⟩]) .ret)))
theorem at192 {args : List AV} {H : AH} {Q : AV → AH → Prop} (hl : args.length ≤ 24) (h : swp Tryz.prog s192 (fin Tryz.prog [.tmp 4] Q) (env0 args) H) : AC Tryz.prog 192 args H Q :=
  AC.of (pl192) Tryz.func192 rfl (by kernel_rfl) mixed (by kernel_rfl) (by kernel_rfl) rfl hl h
/-! ### function 193: codewright/space.zero$1 -/
def s193 : SC :=
  .seq (.reg [⟨some 2, .assign (.const (.bool false)), none⟩]) (.seq (.reg [⟨some 3, .move (.tmp 0), none⟩,
    ⟨some 4, .binOp .neq 3 (.tmp 3) (.const (.int .i64 0)) 3, none⟩,
    ⟨some 2, .assign (.tmp 4), none⟩]) .ret)
theorem at193 {args : List AV} {H : AH} {Q : AV → AH → Prop} (hl : args.length ≤ 5) (h : swp Tryz.prog s193 (fin Tryz.prog [.tmp 2] Q) (env0 args) H) : AC Tryz.prog 193 args H Q :=
  AC.of (fun _ => []) Tryz.func193 rfl (by kernel_rfl) mixed (by kernel_rfl) (by kernel_rfl) rfl hl h
/-! ### function 200: codewright/field.digitsOf -/
def s200 : SC :=
  .seq (.reg [⟨some 6, .assign (.const (.slice none 0 0)), none⟩]) (.seq (.reg [⟨some 9, .move (.tmp 2), none⟩,
    ⟨some 10, .makeSlice 22 (.tmp 9) (.tmp 9), none⟩,
    ⟨some 7, .assign (.tmp 10), none⟩]) (.seq (.seq (.reg [⟨some 11, .move (.tmp 7), none⟩,
    ⟨some 12, .call { callee := .builtin .len, args := #[.tmp 11], argTypes := #[22] }, none⟩,
    ⟨some 13, .move (.const (.int .i64 0)), none⟩]) (.block 0 (.loop (.seq (.reg [⟨some 14, .binOp .lss 3 (.tmp 13) (.tmp 12) 3, none⟩]) (.seq (.cond (.tmp 14) .skip (.exit 0)) (.seq (.block 1 (.seq (.reg [⟨some 15, .move (.tmp 13), none⟩,
    ⟨some 8, .assign (.tmp 15), none⟩]) (.seq (.reg [⟨some 16, .move (.tmp 7), none⟩,
    ⟨some 17, .move (.tmp 8), none⟩,
    ⟨some 18, .move (.tmp 0), none⟩,
    ⟨some 19, .move (.tmp 1), none⟩,
    ⟨some 20, .binOp .rem 3 (.tmp 18) (.tmp 19) 3, none⟩,
    ⟨some 21, .indexAddr 22 (.tmp 16) (.tmp 17), none⟩,
    ⟨none, .store 3 (.tmp 21) (.tmp 20), none⟩]) (.reg [⟨some 22, .move (.tmp 0), none⟩,
    ⟨some 23, .move (.tmp 1), none⟩,
    ⟨some 24, .binOp .quo 3 (.tmp 22) (.tmp 23) 3, none⟩,
    ⟨some 0, .assign (.tmp 24), none⟩])))) (.reg [⟨some 25, .binOp .add 3 (.tmp 13) (.const (.int .i64 1)) 3, none⟩,
    ⟨some 13, .move (.tmp 25), none⟩]))))))) (.seq (.reg [⟨some 26, .move (.tmp 7), none⟩,
    ⟨some 6, .assign (.tmp 26), none⟩]) .ret)))
theorem at200 {args : List AV} {H : AH} {Q : AV → AH → Prop} (hl : args.length ≤ 27) (h : swp Tryz.prog s200 (fin Tryz.prog [.tmp 6] Q) (env0 args) H) : AC Tryz.prog 200 args H Q :=
  AC.of (fun _ => []) Tryz.func200 rfl (by kernel_rfl) mixed (by kernel_rfl) (by kernel_rfl) rfl hl h
end Go.Proofs.YtbkpebmcagdgmaaGreat.AM
/-! Stripped texts of functions, printed by gen.py out of the loaded program; Lean checks each against it. -/
namespace Go.Proofs.YtbkpebmcagdgmaaGreat.AM
open Go Go.RowKit
set_option linter.unusedVariables false
set_option linter.defProp false
/-! ### function 201: codewright/field.valueOf -/
def s201 : SC :=
  .seq (.reg [⟨some 4, .assign (.const (.int .i64 0)), none⟩]) (.seq (.reg [⟨some 5, .assign (.const (.int .i64 0)), none⟩]) (.seq (.seq (.reg [⟨some 7, .move (.tmp 0), none⟩,
    ⟨some 8, .call { callee := .builtin .len, args := #[.tmp 7], argTypes := #[22] }, none⟩,
    ⟨some 9, .binOp .sub 3 (.tmp 8) (.const (.int .i64 1)) 3, none⟩,
    ⟨some 6, .assign (.tmp 9), none⟩]) (.block 0 (.loop (.seq (.seq (.reg [⟨some 10, .move (.tmp 6), none⟩,
    ⟨some 11, .binOp .geq 3 (.tmp 10) (.const (.int .i64 0)) 3, none⟩]) (.cond (.tmp 11) .skip (.exit 0))) (.seq (.block 1 (.reg [⟨some 14, .move (.tmp 5), none⟩,
    ⟨some 15, .move (.tmp 1), none⟩,
    ⟨some 16, .binOp .mul 3 (.tmp 14) (.tmp 15) 3, none⟩,
    ⟨some 17, .move (.tmp 0), none⟩,
    ⟨some 18, .move (.tmp 6), none⟩,
    ⟨some 19, .indexAddr 22 (.tmp 17) (.tmp 18), none⟩,
    ⟨some 20, .load 3 (.tmp 19), none⟩,
    ⟨some 21, .binOp .add 3 (.tmp 16) (.tmp 20) 3, none⟩,
    ⟨some 5, .assign (.tmp 21), none⟩])) (.reg [⟨some 12, .move (.tmp 6), none⟩,
    ⟨some 13, .binOp .sub 3 (.tmp 12) (.const (.int .i64 1)) 3, none⟩,
    ⟨some 6, .assign (.tmp 13), none⟩])))))) (.seq (.reg [⟨some 22, .move (.tmp 5), none⟩,
    ⟨some 4, .assign (.tmp 22), none⟩]) .ret)))
theorem at201 {args : List AV} {H : AH} {Q : AV → AH → Prop} (hl : args.length ≤ 23) (h : swp Tryz.prog s201 (fin Tryz.prog [.tmp 4] Q) (env0 args) H) : AC Tryz.prog 201 args H Q :=
  AC.of (fun _ => []) Tryz.func201 rfl (by kernel_rfl) mixed (by kernel_rfl) (by kernel_rfl) rfl hl h
/-! ### function 202: codewright/codewrightref04.In -/
def s202 : SC :=
  .seq (.reg [⟨some 2, .box 24 (.tmp 0), none⟩,
    ⟨some 4, .assign (.const (.int .i64 0)), none⟩]) (.seq (.seq (.reg [⟨some 5, .load 24 (.tmp 2), none⟩,
    ⟨some 6, .move (.tmp 1), none⟩,
    ⟨some 7, .call { callee := .value (.func 142), args := #[.tmp 5, .tmp 6], argTypes := #[24, 3] }, none⟩]) (.cond (.tmp 7) (.seq (.reg [⟨some 8, .move (.tmp 1), none⟩,
    ⟨some 4, .assign (.tmp 8), none⟩]) .ret) .skip)) (.seq (.reg [⟨some 4, .assign (.const (.int .i64 0)), none⟩]) .ret))
theorem at202 {args : List AV} {H : AH} {Q : AV → AH → Prop} (hl : args.length ≤ 9) (h : swp Tryz.prog s202 (fin Tryz.prog [.tmp 4] Q) (env0 args) H) : AC Tryz.prog 202 args H Q :=
  AC.of (fun _ => []) Tryz.func202 rfl (by kernel_rfl) mixed (by kernel_rfl) (by kernel_rfl) rfl hl h
end Go.Proofs.YtbkpebmcagdgmaaGreat.AM
