/- Contracts of functions of the seat's program, and what follows of them: Ty. Conditions are in each statement. -/
import Derived.Test.YtfpkodajcpcabaaRows
import Derived.Test.YtfpkodajcpcabaaV3
set_option linter.unusedSimpArgs false
set_option linter.unusedVariables false
namespace Go.Proofs.Ytfpkodajcpcabaa
open Go Go.Proofs Go.Vm

@[simp] theorem tsz_0 : tsz Try.prog 0 = some 1 := by kernel_rfl
@[simp] theorem tagg_0 : tagg Try.prog 0 = some false := by kernel_rfl
@[simp] theorem tzero_0 : tzero Try.prog 0 = some (Value.tuple { toList := [] }) := by kernel_rfl
@[simp] theorem tplaces_0 : tplaces Try.prog 0 = none := by kernel_rfl
@[simp] theorem telem_0 : telem Try.prog 0 = none := by kernel_rfl
@[simp] theorem tint_0 : tint Try.prog 0 = none := by kernel_rfl
@[simp] theorem tfld_0_0 : tfld Try.prog 0 0 = none := by kernel_rfl
@[simp] theorem tfld_0_1 : tfld Try.prog 0 1 = none := by kernel_rfl
@[simp] theorem tfld_0_2 : tfld Try.prog 0 2 = none := by kernel_rfl
@[simp] theorem tfld_0_3 : tfld Try.prog 0 3 = none := by kernel_rfl
@[simp] theorem tfld_0_4 : tfld Try.prog 0 4 = none := by kernel_rfl
@[simp] theorem tfld_0_5 : tfld Try.prog 0 5 = none := by kernel_rfl
@[simp] theorem tfld_0_6 : tfld Try.prog 0 6 = none := by kernel_rfl
@[simp] theorem tfld_0_7 : tfld Try.prog 0 7 = none := by kernel_rfl
@[simp] theorem tfld_0_8 : tfld Try.prog 0 8 = none := by kernel_rfl
@[simp] theorem tfld_0_9 : tfld Try.prog 0 9 = none := by kernel_rfl
@[simp] theorem tfld_0_10 : tfld Try.prog 0 10 = none := by kernel_rfl
@[simp] theorem tfld_0_11 : tfld Try.prog 0 11 = none := by kernel_rfl
@[simp] theorem tfld_0_12 : tfld Try.prog 0 12 = none := by kernel_rfl
@[simp] theorem tfld_0_13 : tfld Try.prog 0 13 = none := by kernel_rfl
@[simp] theorem tfld_0_14 : tfld Try.prog 0 14 = none := by kernel_rfl
@[simp] theorem tfld_0_15 : tfld Try.prog 0 15 = none := by kernel_rfl
@[simp] theorem tfld_0_16 : tfld Try.prog 0 16 = none := by kernel_rfl
@[simp] theorem tfld_0_17 : tfld Try.prog 0 17 = none := by kernel_rfl
@[simp] theorem tfld_0_18 : tfld Try.prog 0 18 = none := by kernel_rfl
@[simp] theorem tfld_0_19 : tfld Try.prog 0 19 = none := by kernel_rfl
@[simp] theorem tfld_0_20 : tfld Try.prog 0 20 = none := by kernel_rfl
@[simp] theorem tfld_0_21 : tfld Try.prog 0 21 = none := by kernel_rfl
@[simp] theorem tfld_0_22 : tfld Try.prog 0 22 = none := by kernel_rfl
@[simp] theorem tfld_0_23 : tfld Try.prog 0 23 = none := by kernel_rfl
@[simp] theorem tfld_0_24 : tfld Try.prog 0 24 = none := by kernel_rfl
@[simp] theorem tfld_0_25 : tfld Try.prog 0 25 = none := by kernel_rfl
@[simp] theorem tfld_0_26 : tfld Try.prog 0 26 = none := by kernel_rfl
@[simp] theorem tfld_0_27 : tfld Try.prog 0 27 = none := by kernel_rfl
@[simp] theorem tfld_0_28 : tfld Try.prog 0 28 = none := by kernel_rfl
@[simp] theorem tfld_0_29 : tfld Try.prog 0 29 = none := by kernel_rfl
@[simp] theorem tsz_1 : tsz Try.prog 1 = some 1 := by kernel_rfl
@[simp] theorem tagg_1 : tagg Try.prog 1 = some false := by kernel_rfl
@[simp] theorem tzero_1 : tzero Try.prog 1 = some Value.nilFunc := by kernel_rfl
@[simp] theorem tplaces_1 : tplaces Try.prog 1 = none := by kernel_rfl
@[simp] theorem telem_1 : telem Try.prog 1 = none := by kernel_rfl
@[simp] theorem tint_1 : tint Try.prog 1 = none := by kernel_rfl
@[simp] theorem tfld_1_0 : tfld Try.prog 1 0 = none := by kernel_rfl
@[simp] theorem tfld_1_1 : tfld Try.prog 1 1 = none := by kernel_rfl
@[simp] theorem tfld_1_2 : tfld Try.prog 1 2 = none := by kernel_rfl
@[simp] theorem tfld_1_3 : tfld Try.prog 1 3 = none := by kernel_rfl
@[simp] theorem tfld_1_4 : tfld Try.prog 1 4 = none := by kernel_rfl
@[simp] theorem tfld_1_5 : tfld Try.prog 1 5 = none := by kernel_rfl
@[simp] theorem tfld_1_6 : tfld Try.prog 1 6 = none := by kernel_rfl
@[simp] theorem tfld_1_7 : tfld Try.prog 1 7 = none := by kernel_rfl
@[simp] theorem tfld_1_8 : tfld Try.prog 1 8 = none := by kernel_rfl
@[simp] theorem tfld_1_9 : tfld Try.prog 1 9 = none := by kernel_rfl
@[simp] theorem tfld_1_10 : tfld Try.prog 1 10 = none := by kernel_rfl
@[simp] theorem tfld_1_11 : tfld Try.prog 1 11 = none := by kernel_rfl
@[simp] theorem tfld_1_12 : tfld Try.prog 1 12 = none := by kernel_rfl
@[simp] theorem tfld_1_13 : tfld Try.prog 1 13 = none := by kernel_rfl
@[simp] theorem tfld_1_14 : tfld Try.prog 1 14 = none := by kernel_rfl
@[simp] theorem tfld_1_15 : tfld Try.prog 1 15 = none := by kernel_rfl
@[simp] theorem tfld_1_16 : tfld Try.prog 1 16 = none := by kernel_rfl
@[simp] theorem tfld_1_17 : tfld Try.prog 1 17 = none := by kernel_rfl
@[simp] theorem tfld_1_18 : tfld Try.prog 1 18 = none := by kernel_rfl
@[simp] theorem tfld_1_19 : tfld Try.prog 1 19 = none := by kernel_rfl
@[simp] theorem tfld_1_20 : tfld Try.prog 1 20 = none := by kernel_rfl
@[simp] theorem tfld_1_21 : tfld Try.prog 1 21 = none := by kernel_rfl
@[simp] theorem tfld_1_22 : tfld Try.prog 1 22 = none := by kernel_rfl
@[simp] theorem tfld_1_23 : tfld Try.prog 1 23 = none := by kernel_rfl
@[simp] theorem tfld_1_24 : tfld Try.prog 1 24 = none := by kernel_rfl
@[simp] theorem tfld_1_25 : tfld Try.prog 1 25 = none := by kernel_rfl
@[simp] theorem tfld_1_26 : tfld Try.prog 1 26 = none := by kernel_rfl
@[simp] theorem tfld_1_27 : tfld Try.prog 1 27 = none := by kernel_rfl
@[simp] theorem tfld_1_28 : tfld Try.prog 1 28 = none := by kernel_rfl
@[simp] theorem tfld_1_29 : tfld Try.prog 1 29 = none := by kernel_rfl
@[simp] theorem tsz_2 : tsz Try.prog 2 = some 1 := by kernel_rfl
@[simp] theorem tagg_2 : tagg Try.prog 2 = some false := by kernel_rfl
@[simp] theorem tzero_2 : tzero Try.prog 2 = some (Value.int IntKind.i64 (Int.ofNat 0)) := by kernel_rfl
@[simp] theorem tplaces_2 : tplaces Try.prog 2 = none := by kernel_rfl
@[simp] theorem telem_2 : telem Try.prog 2 = none := by kernel_rfl
@[simp] theorem tint_2 : tint Try.prog 2 = some IntKind.i64 := by kernel_rfl
@[simp] theorem tfld_2_0 : tfld Try.prog 2 0 = none := by kernel_rfl
@[simp] theorem tfld_2_1 : tfld Try.prog 2 1 = none := by kernel_rfl
@[simp] theorem tfld_2_2 : tfld Try.prog 2 2 = none := by kernel_rfl
@[simp] theorem tfld_2_3 : tfld Try.prog 2 3 = none := by kernel_rfl
@[simp] theorem tfld_2_4 : tfld Try.prog 2 4 = none := by kernel_rfl
@[simp] theorem tfld_2_5 : tfld Try.prog 2 5 = none := by kernel_rfl
@[simp] theorem tfld_2_6 : tfld Try.prog 2 6 = none := by kernel_rfl
@[simp] theorem tfld_2_7 : tfld Try.prog 2 7 = none := by kernel_rfl
@[simp] theorem tfld_2_8 : tfld Try.prog 2 8 = none := by kernel_rfl
@[simp] theorem tfld_2_9 : tfld Try.prog 2 9 = none := by kernel_rfl
@[simp] theorem tfld_2_10 : tfld Try.prog 2 10 = none := by kernel_rfl
@[simp] theorem tfld_2_11 : tfld Try.prog 2 11 = none := by kernel_rfl
@[simp] theorem tfld_2_12 : tfld Try.prog 2 12 = none := by kernel_rfl
@[simp] theorem tfld_2_13 : tfld Try.prog 2 13 = none := by kernel_rfl
@[simp] theorem tfld_2_14 : tfld Try.prog 2 14 = none := by kernel_rfl
@[simp] theorem tfld_2_15 : tfld Try.prog 2 15 = none := by kernel_rfl
@[simp] theorem tfld_2_16 : tfld Try.prog 2 16 = none := by kernel_rfl
@[simp] theorem tfld_2_17 : tfld Try.prog 2 17 = none := by kernel_rfl
@[simp] theorem tfld_2_18 : tfld Try.prog 2 18 = none := by kernel_rfl
@[simp] theorem tfld_2_19 : tfld Try.prog 2 19 = none := by kernel_rfl
@[simp] theorem tfld_2_20 : tfld Try.prog 2 20 = none := by kernel_rfl
@[simp] theorem tfld_2_21 : tfld Try.prog 2 21 = none := by kernel_rfl
@[simp] theorem tfld_2_22 : tfld Try.prog 2 22 = none := by kernel_rfl
@[simp] theorem tfld_2_23 : tfld Try.prog 2 23 = none := by kernel_rfl
@[simp] theorem tfld_2_24 : tfld Try.prog 2 24 = none := by kernel_rfl
@[simp] theorem tfld_2_25 : tfld Try.prog 2 25 = none := by kernel_rfl
@[simp] theorem tfld_2_26 : tfld Try.prog 2 26 = none := by kernel_rfl
@[simp] theorem tfld_2_27 : tfld Try.prog 2 27 = none := by kernel_rfl
@[simp] theorem tfld_2_28 : tfld Try.prog 2 28 = none := by kernel_rfl
@[simp] theorem tfld_2_29 : tfld Try.prog 2 29 = none := by kernel_rfl
@[simp] theorem tsz_3 : tsz Try.prog 3 = some 1 := by kernel_rfl
@[simp] theorem tagg_3 : tagg Try.prog 3 = some false := by kernel_rfl
@[simp] theorem tzero_3 : tzero Try.prog 3 = some (Value.int IntKind.i64 (Int.ofNat 0)) := by kernel_rfl
@[simp] theorem tplaces_3 : tplaces Try.prog 3 = none := by kernel_rfl
@[simp] theorem telem_3 : telem Try.prog 3 = none := by kernel_rfl
@[simp] theorem tint_3 : tint Try.prog 3 = some IntKind.i64 := by kernel_rfl
@[simp] theorem tfld_3_0 : tfld Try.prog 3 0 = none := by kernel_rfl
@[simp] theorem tfld_3_1 : tfld Try.prog 3 1 = none := by kernel_rfl
@[simp] theorem tfld_3_2 : tfld Try.prog 3 2 = none := by kernel_rfl
@[simp] theorem tfld_3_3 : tfld Try.prog 3 3 = none := by kernel_rfl
@[simp] theorem tfld_3_4 : tfld Try.prog 3 4 = none := by kernel_rfl
@[simp] theorem tfld_3_5 : tfld Try.prog 3 5 = none := by kernel_rfl
@[simp] theorem tfld_3_6 : tfld Try.prog 3 6 = none := by kernel_rfl
@[simp] theorem tfld_3_7 : tfld Try.prog 3 7 = none := by kernel_rfl
@[simp] theorem tfld_3_8 : tfld Try.prog 3 8 = none := by kernel_rfl
@[simp] theorem tfld_3_9 : tfld Try.prog 3 9 = none := by kernel_rfl
@[simp] theorem tfld_3_10 : tfld Try.prog 3 10 = none := by kernel_rfl
@[simp] theorem tfld_3_11 : tfld Try.prog 3 11 = none := by kernel_rfl
@[simp] theorem tfld_3_12 : tfld Try.prog 3 12 = none := by kernel_rfl
@[simp] theorem tfld_3_13 : tfld Try.prog 3 13 = none := by kernel_rfl
@[simp] theorem tfld_3_14 : tfld Try.prog 3 14 = none := by kernel_rfl
@[simp] theorem tfld_3_15 : tfld Try.prog 3 15 = none := by kernel_rfl
@[simp] theorem tfld_3_16 : tfld Try.prog 3 16 = none := by kernel_rfl
@[simp] theorem tfld_3_17 : tfld Try.prog 3 17 = none := by kernel_rfl
@[simp] theorem tfld_3_18 : tfld Try.prog 3 18 = none := by kernel_rfl
@[simp] theorem tfld_3_19 : tfld Try.prog 3 19 = none := by kernel_rfl
@[simp] theorem tfld_3_20 : tfld Try.prog 3 20 = none := by kernel_rfl
@[simp] theorem tfld_3_21 : tfld Try.prog 3 21 = none := by kernel_rfl
@[simp] theorem tfld_3_22 : tfld Try.prog 3 22 = none := by kernel_rfl
@[simp] theorem tfld_3_23 : tfld Try.prog 3 23 = none := by kernel_rfl
@[simp] theorem tfld_3_24 : tfld Try.prog 3 24 = none := by kernel_rfl
@[simp] theorem tfld_3_25 : tfld Try.prog 3 25 = none := by kernel_rfl
@[simp] theorem tfld_3_26 : tfld Try.prog 3 26 = none := by kernel_rfl
@[simp] theorem tfld_3_27 : tfld Try.prog 3 27 = none := by kernel_rfl
@[simp] theorem tfld_3_28 : tfld Try.prog 3 28 = none := by kernel_rfl
@[simp] theorem tfld_3_29 : tfld Try.prog 3 29 = none := by kernel_rfl
@[simp] theorem tsz_4 : tsz Try.prog 4 = some 1 := by kernel_rfl
@[simp] theorem tagg_4 : tagg Try.prog 4 = some false := by kernel_rfl
@[simp] theorem tzero_4 : tzero Try.prog 4 = some (Value.bool false) := by kernel_rfl
@[simp] theorem tplaces_4 : tplaces Try.prog 4 = none := by kernel_rfl
@[simp] theorem telem_4 : telem Try.prog 4 = none := by kernel_rfl
@[simp] theorem tint_4 : tint Try.prog 4 = none := by kernel_rfl
@[simp] theorem tfld_4_0 : tfld Try.prog 4 0 = none := by kernel_rfl
@[simp] theorem tfld_4_1 : tfld Try.prog 4 1 = none := by kernel_rfl
@[simp] theorem tfld_4_2 : tfld Try.prog 4 2 = none := by kernel_rfl
@[simp] theorem tfld_4_3 : tfld Try.prog 4 3 = none := by kernel_rfl
@[simp] theorem tfld_4_4 : tfld Try.prog 4 4 = none := by kernel_rfl
@[simp] theorem tfld_4_5 : tfld Try.prog 4 5 = none := by kernel_rfl
@[simp] theorem tfld_4_6 : tfld Try.prog 4 6 = none := by kernel_rfl
@[simp] theorem tfld_4_7 : tfld Try.prog 4 7 = none := by kernel_rfl
@[simp] theorem tfld_4_8 : tfld Try.prog 4 8 = none := by kernel_rfl
@[simp] theorem tfld_4_9 : tfld Try.prog 4 9 = none := by kernel_rfl
@[simp] theorem tfld_4_10 : tfld Try.prog 4 10 = none := by kernel_rfl
@[simp] theorem tfld_4_11 : tfld Try.prog 4 11 = none := by kernel_rfl
@[simp] theorem tfld_4_12 : tfld Try.prog 4 12 = none := by kernel_rfl
@[simp] theorem tfld_4_13 : tfld Try.prog 4 13 = none := by kernel_rfl
@[simp] theorem tfld_4_14 : tfld Try.prog 4 14 = none := by kernel_rfl
@[simp] theorem tfld_4_15 : tfld Try.prog 4 15 = none := by kernel_rfl
@[simp] theorem tfld_4_16 : tfld Try.prog 4 16 = none := by kernel_rfl
@[simp] theorem tfld_4_17 : tfld Try.prog 4 17 = none := by kernel_rfl
@[simp] theorem tfld_4_18 : tfld Try.prog 4 18 = none := by kernel_rfl
@[simp] theorem tfld_4_19 : tfld Try.prog 4 19 = none := by kernel_rfl
@[simp] theorem tfld_4_20 : tfld Try.prog 4 20 = none := by kernel_rfl
@[simp] theorem tfld_4_21 : tfld Try.prog 4 21 = none := by kernel_rfl
@[simp] theorem tfld_4_22 : tfld Try.prog 4 22 = none := by kernel_rfl
@[simp] theorem tfld_4_23 : tfld Try.prog 4 23 = none := by kernel_rfl
@[simp] theorem tfld_4_24 : tfld Try.prog 4 24 = none := by kernel_rfl
@[simp] theorem tfld_4_25 : tfld Try.prog 4 25 = none := by kernel_rfl
@[simp] theorem tfld_4_26 : tfld Try.prog 4 26 = none := by kernel_rfl
@[simp] theorem tfld_4_27 : tfld Try.prog 4 27 = none := by kernel_rfl
@[simp] theorem tfld_4_28 : tfld Try.prog 4 28 = none := by kernel_rfl
@[simp] theorem tfld_4_29 : tfld Try.prog 4 29 = none := by kernel_rfl
@[simp] theorem tsz_5 : tsz Try.prog 5 = some 1 := by kernel_rfl
@[simp] theorem tagg_5 : tagg Try.prog 5 = some false := by kernel_rfl
@[simp] theorem tzero_5 : tzero Try.prog 5 = some (Value.int IntKind.u8 (Int.ofNat 0)) := by kernel_rfl
@[simp] theorem tplaces_5 : tplaces Try.prog 5 = none := by kernel_rfl
@[simp] theorem telem_5 : telem Try.prog 5 = none := by kernel_rfl
@[simp] theorem tint_5 : tint Try.prog 5 = some IntKind.u8 := by kernel_rfl
@[simp] theorem tfld_5_0 : tfld Try.prog 5 0 = none := by kernel_rfl
@[simp] theorem tfld_5_1 : tfld Try.prog 5 1 = none := by kernel_rfl
@[simp] theorem tfld_5_2 : tfld Try.prog 5 2 = none := by kernel_rfl
@[simp] theorem tfld_5_3 : tfld Try.prog 5 3 = none := by kernel_rfl
@[simp] theorem tfld_5_4 : tfld Try.prog 5 4 = none := by kernel_rfl
@[simp] theorem tfld_5_5 : tfld Try.prog 5 5 = none := by kernel_rfl
@[simp] theorem tfld_5_6 : tfld Try.prog 5 6 = none := by kernel_rfl
@[simp] theorem tfld_5_7 : tfld Try.prog 5 7 = none := by kernel_rfl
@[simp] theorem tfld_5_8 : tfld Try.prog 5 8 = none := by kernel_rfl
@[simp] theorem tfld_5_9 : tfld Try.prog 5 9 = none := by kernel_rfl
@[simp] theorem tfld_5_10 : tfld Try.prog 5 10 = none := by kernel_rfl
@[simp] theorem tfld_5_11 : tfld Try.prog 5 11 = none := by kernel_rfl
@[simp] theorem tfld_5_12 : tfld Try.prog 5 12 = none := by kernel_rfl
@[simp] theorem tfld_5_13 : tfld Try.prog 5 13 = none := by kernel_rfl
@[simp] theorem tfld_5_14 : tfld Try.prog 5 14 = none := by kernel_rfl
@[simp] theorem tfld_5_15 : tfld Try.prog 5 15 = none := by kernel_rfl
@[simp] theorem tfld_5_16 : tfld Try.prog 5 16 = none := by kernel_rfl
@[simp] theorem tfld_5_17 : tfld Try.prog 5 17 = none := by kernel_rfl
@[simp] theorem tfld_5_18 : tfld Try.prog 5 18 = none := by kernel_rfl
@[simp] theorem tfld_5_19 : tfld Try.prog 5 19 = none := by kernel_rfl
@[simp] theorem tfld_5_20 : tfld Try.prog 5 20 = none := by kernel_rfl
@[simp] theorem tfld_5_21 : tfld Try.prog 5 21 = none := by kernel_rfl
@[simp] theorem tfld_5_22 : tfld Try.prog 5 22 = none := by kernel_rfl
@[simp] theorem tfld_5_23 : tfld Try.prog 5 23 = none := by kernel_rfl
@[simp] theorem tfld_5_24 : tfld Try.prog 5 24 = none := by kernel_rfl
@[simp] theorem tfld_5_25 : tfld Try.prog 5 25 = none := by kernel_rfl
@[simp] theorem tfld_5_26 : tfld Try.prog 5 26 = none := by kernel_rfl
@[simp] theorem tfld_5_27 : tfld Try.prog 5 27 = none := by kernel_rfl
@[simp] theorem tfld_5_28 : tfld Try.prog 5 28 = none := by kernel_rfl
@[simp] theorem tfld_5_29 : tfld Try.prog 5 29 = none := by kernel_rfl
@[simp] theorem tsz_6 : tsz Try.prog 6 = some 1 := by kernel_rfl
@[simp] theorem tagg_6 : tagg Try.prog 6 = some false := by kernel_rfl
@[simp] theorem tzero_6 : tzero Try.prog 6 = some (Value.int IntKind.u8 (Int.ofNat 0)) := by kernel_rfl
@[simp] theorem tplaces_6 : tplaces Try.prog 6 = none := by kernel_rfl
@[simp] theorem telem_6 : telem Try.prog 6 = none := by kernel_rfl
@[simp] theorem tint_6 : tint Try.prog 6 = some IntKind.u8 := by kernel_rfl
@[simp] theorem tfld_6_0 : tfld Try.prog 6 0 = none := by kernel_rfl
@[simp] theorem tfld_6_1 : tfld Try.prog 6 1 = none := by kernel_rfl
@[simp] theorem tfld_6_2 : tfld Try.prog 6 2 = none := by kernel_rfl
@[simp] theorem tfld_6_3 : tfld Try.prog 6 3 = none := by kernel_rfl
@[simp] theorem tfld_6_4 : tfld Try.prog 6 4 = none := by kernel_rfl
@[simp] theorem tfld_6_5 : tfld Try.prog 6 5 = none := by kernel_rfl
@[simp] theorem tfld_6_6 : tfld Try.prog 6 6 = none := by kernel_rfl
@[simp] theorem tfld_6_7 : tfld Try.prog 6 7 = none := by kernel_rfl
@[simp] theorem tfld_6_8 : tfld Try.prog 6 8 = none := by kernel_rfl
@[simp] theorem tfld_6_9 : tfld Try.prog 6 9 = none := by kernel_rfl
@[simp] theorem tfld_6_10 : tfld Try.prog 6 10 = none := by kernel_rfl
@[simp] theorem tfld_6_11 : tfld Try.prog 6 11 = none := by kernel_rfl
@[simp] theorem tfld_6_12 : tfld Try.prog 6 12 = none := by kernel_rfl
@[simp] theorem tfld_6_13 : tfld Try.prog 6 13 = none := by kernel_rfl
@[simp] theorem tfld_6_14 : tfld Try.prog 6 14 = none := by kernel_rfl
@[simp] theorem tfld_6_15 : tfld Try.prog 6 15 = none := by kernel_rfl
@[simp] theorem tfld_6_16 : tfld Try.prog 6 16 = none := by kernel_rfl
@[simp] theorem tfld_6_17 : tfld Try.prog 6 17 = none := by kernel_rfl
@[simp] theorem tfld_6_18 : tfld Try.prog 6 18 = none := by kernel_rfl
@[simp] theorem tfld_6_19 : tfld Try.prog 6 19 = none := by kernel_rfl
@[simp] theorem tfld_6_20 : tfld Try.prog 6 20 = none := by kernel_rfl
@[simp] theorem tfld_6_21 : tfld Try.prog 6 21 = none := by kernel_rfl
@[simp] theorem tfld_6_22 : tfld Try.prog 6 22 = none := by kernel_rfl
@[simp] theorem tfld_6_23 : tfld Try.prog 6 23 = none := by kernel_rfl
@[simp] theorem tfld_6_24 : tfld Try.prog 6 24 = none := by kernel_rfl
@[simp] theorem tfld_6_25 : tfld Try.prog 6 25 = none := by kernel_rfl
@[simp] theorem tfld_6_26 : tfld Try.prog 6 26 = none := by kernel_rfl
@[simp] theorem tfld_6_27 : tfld Try.prog 6 27 = none := by kernel_rfl
@[simp] theorem tfld_6_28 : tfld Try.prog 6 28 = none := by kernel_rfl
@[simp] theorem tfld_6_29 : tfld Try.prog 6 29 = none := by kernel_rfl
@[simp] theorem tsz_7 : tsz Try.prog 7 = some 4 := by kernel_rfl
@[simp] theorem tagg_7 : tagg Try.prog 7 = some true := by kernel_rfl
@[simp] theorem tzero_7 : tzero Try.prog 7 = some (Value.agg { toList := [Value.int IntKind.i64 (Int.ofNat 0), Value.int IntKind.i64 (Int.ofNat 0), Value.bool false, Value.int IntKind.u8 (Int.ofNat 0)] }) := by kernel_rfl
@[simp] theorem tplaces_7 : tplaces Try.prog 7 = some [(0, 1), (1, 1), (2, 1), (3, 1)] := by kernel_rfl
@[simp] theorem telem_7 : telem Try.prog 7 = none := by kernel_rfl
@[simp] theorem tint_7 : tint Try.prog 7 = none := by kernel_rfl
@[simp] theorem tfld_7_0 : tfld Try.prog 7 0 = some (0, 2) := by kernel_rfl
@[simp] theorem tfld_7_1 : tfld Try.prog 7 1 = some (1, 3) := by kernel_rfl
@[simp] theorem tfld_7_2 : tfld Try.prog 7 2 = some (2, 4) := by kernel_rfl
@[simp] theorem tfld_7_3 : tfld Try.prog 7 3 = some (3, 6) := by kernel_rfl
@[simp] theorem tfld_7_4 : tfld Try.prog 7 4 = none := by kernel_rfl
@[simp] theorem tfld_7_5 : tfld Try.prog 7 5 = none := by kernel_rfl
@[simp] theorem tfld_7_6 : tfld Try.prog 7 6 = none := by kernel_rfl
@[simp] theorem tfld_7_7 : tfld Try.prog 7 7 = none := by kernel_rfl
@[simp] theorem tfld_7_8 : tfld Try.prog 7 8 = none := by kernel_rfl
@[simp] theorem tfld_7_9 : tfld Try.prog 7 9 = none := by kernel_rfl
@[simp] theorem tfld_7_10 : tfld Try.prog 7 10 = none := by kernel_rfl
@[simp] theorem tfld_7_11 : tfld Try.prog 7 11 = none := by kernel_rfl
@[simp] theorem tfld_7_12 : tfld Try.prog 7 12 = none := by kernel_rfl
@[simp] theorem tfld_7_13 : tfld Try.prog 7 13 = none := by kernel_rfl
@[simp] theorem tfld_7_14 : tfld Try.prog 7 14 = none := by kernel_rfl
@[simp] theorem tfld_7_15 : tfld Try.prog 7 15 = none := by kernel_rfl
@[simp] theorem tfld_7_16 : tfld Try.prog 7 16 = none := by kernel_rfl
@[simp] theorem tfld_7_17 : tfld Try.prog 7 17 = none := by kernel_rfl
@[simp] theorem tfld_7_18 : tfld Try.prog 7 18 = none := by kernel_rfl
@[simp] theorem tfld_7_19 : tfld Try.prog 7 19 = none := by kernel_rfl
@[simp] theorem tfld_7_20 : tfld Try.prog 7 20 = none := by kernel_rfl
@[simp] theorem tfld_7_21 : tfld Try.prog 7 21 = none := by kernel_rfl
@[simp] theorem tfld_7_22 : tfld Try.prog 7 22 = none := by kernel_rfl
@[simp] theorem tfld_7_23 : tfld Try.prog 7 23 = none := by kernel_rfl
@[simp] theorem tfld_7_24 : tfld Try.prog 7 24 = none := by kernel_rfl
@[simp] theorem tfld_7_25 : tfld Try.prog 7 25 = none := by kernel_rfl
@[simp] theorem tfld_7_26 : tfld Try.prog 7 26 = none := by kernel_rfl
@[simp] theorem tfld_7_27 : tfld Try.prog 7 27 = none := by kernel_rfl
@[simp] theorem tfld_7_28 : tfld Try.prog 7 28 = none := by kernel_rfl
@[simp] theorem tfld_7_29 : tfld Try.prog 7 29 = none := by kernel_rfl
@[simp] theorem tsz_8 : tsz Try.prog 8 = some 4 := by kernel_rfl
@[simp] theorem tagg_8 : tagg Try.prog 8 = some true := by kernel_rfl
@[simp] theorem tzero_8 : tzero Try.prog 8 = some (Value.agg { toList := [Value.int IntKind.i64 (Int.ofNat 0), Value.int IntKind.i64 (Int.ofNat 0), Value.bool false, Value.int IntKind.u8 (Int.ofNat 0)] }) := by kernel_rfl
@[simp] theorem tplaces_8 : tplaces Try.prog 8 = some [(0, 1), (1, 1), (2, 1), (3, 1)] := by kernel_rfl
@[simp] theorem telem_8 : telem Try.prog 8 = none := by kernel_rfl
@[simp] theorem tint_8 : tint Try.prog 8 = none := by kernel_rfl
@[simp] theorem tfld_8_0 : tfld Try.prog 8 0 = some (0, 2) := by kernel_rfl
@[simp] theorem tfld_8_1 : tfld Try.prog 8 1 = some (1, 3) := by kernel_rfl
@[simp] theorem tfld_8_2 : tfld Try.prog 8 2 = some (2, 4) := by kernel_rfl
@[simp] theorem tfld_8_3 : tfld Try.prog 8 3 = some (3, 6) := by kernel_rfl
@[simp] theorem tfld_8_4 : tfld Try.prog 8 4 = none := by kernel_rfl
@[simp] theorem tfld_8_5 : tfld Try.prog 8 5 = none := by kernel_rfl
@[simp] theorem tfld_8_6 : tfld Try.prog 8 6 = none := by kernel_rfl
@[simp] theorem tfld_8_7 : tfld Try.prog 8 7 = none := by kernel_rfl
@[simp] theorem tfld_8_8 : tfld Try.prog 8 8 = none := by kernel_rfl
@[simp] theorem tfld_8_9 : tfld Try.prog 8 9 = none := by kernel_rfl
@[simp] theorem tfld_8_10 : tfld Try.prog 8 10 = none := by kernel_rfl
@[simp] theorem tfld_8_11 : tfld Try.prog 8 11 = none := by kernel_rfl
@[simp] theorem tfld_8_12 : tfld Try.prog 8 12 = none := by kernel_rfl
@[simp] theorem tfld_8_13 : tfld Try.prog 8 13 = none := by kernel_rfl
@[simp] theorem tfld_8_14 : tfld Try.prog 8 14 = none := by kernel_rfl
@[simp] theorem tfld_8_15 : tfld Try.prog 8 15 = none := by kernel_rfl
@[simp] theorem tfld_8_16 : tfld Try.prog 8 16 = none := by kernel_rfl
@[simp] theorem tfld_8_17 : tfld Try.prog 8 17 = none := by kernel_rfl
@[simp] theorem tfld_8_18 : tfld Try.prog 8 18 = none := by kernel_rfl
@[simp] theorem tfld_8_19 : tfld Try.prog 8 19 = none := by kernel_rfl
@[simp] theorem tfld_8_20 : tfld Try.prog 8 20 = none := by kernel_rfl
@[simp] theorem tfld_8_21 : tfld Try.prog 8 21 = none := by kernel_rfl
@[simp] theorem tfld_8_22 : tfld Try.prog 8 22 = none := by kernel_rfl
@[simp] theorem tfld_8_23 : tfld Try.prog 8 23 = none := by kernel_rfl
@[simp] theorem tfld_8_24 : tfld Try.prog 8 24 = none := by kernel_rfl
@[simp] theorem tfld_8_25 : tfld Try.prog 8 25 = none := by kernel_rfl
@[simp] theorem tfld_8_26 : tfld Try.prog 8 26 = none := by kernel_rfl
@[simp] theorem tfld_8_27 : tfld Try.prog 8 27 = none := by kernel_rfl
@[simp] theorem tfld_8_28 : tfld Try.prog 8 28 = none := by kernel_rfl
@[simp] theorem tfld_8_29 : tfld Try.prog 8 29 = none := by kernel_rfl
@[simp] theorem tsz_9 : tsz Try.prog 9 = some 1 := by kernel_rfl
@[simp] theorem tagg_9 : tagg Try.prog 9 = some false := by kernel_rfl
@[simp] theorem tzero_9 : tzero Try.prog 9 = some (Value.string { data := { toList := [] } }) := by kernel_rfl
@[simp] theorem tplaces_9 : tplaces Try.prog 9 = none := by kernel_rfl
@[simp] theorem telem_9 : telem Try.prog 9 = none := by kernel_rfl
@[simp] theorem tint_9 : tint Try.prog 9 = none := by kernel_rfl
@[simp] theorem tfld_9_0 : tfld Try.prog 9 0 = none := by kernel_rfl
@[simp] theorem tfld_9_1 : tfld Try.prog 9 1 = none := by kernel_rfl
@[simp] theorem tfld_9_2 : tfld Try.prog 9 2 = none := by kernel_rfl
@[simp] theorem tfld_9_3 : tfld Try.prog 9 3 = none := by kernel_rfl
@[simp] theorem tfld_9_4 : tfld Try.prog 9 4 = none := by kernel_rfl
@[simp] theorem tfld_9_5 : tfld Try.prog 9 5 = none := by kernel_rfl
@[simp] theorem tfld_9_6 : tfld Try.prog 9 6 = none := by kernel_rfl
@[simp] theorem tfld_9_7 : tfld Try.prog 9 7 = none := by kernel_rfl
@[simp] theorem tfld_9_8 : tfld Try.prog 9 8 = none := by kernel_rfl
@[simp] theorem tfld_9_9 : tfld Try.prog 9 9 = none := by kernel_rfl
@[simp] theorem tfld_9_10 : tfld Try.prog 9 10 = none := by kernel_rfl
@[simp] theorem tfld_9_11 : tfld Try.prog 9 11 = none := by kernel_rfl
@[simp] theorem tfld_9_12 : tfld Try.prog 9 12 = none := by kernel_rfl
@[simp] theorem tfld_9_13 : tfld Try.prog 9 13 = none := by kernel_rfl
@[simp] theorem tfld_9_14 : tfld Try.prog 9 14 = none := by kernel_rfl
@[simp] theorem tfld_9_15 : tfld Try.prog 9 15 = none := by kernel_rfl
@[simp] theorem tfld_9_16 : tfld Try.prog 9 16 = none := by kernel_rfl
@[simp] theorem tfld_9_17 : tfld Try.prog 9 17 = none := by kernel_rfl
@[simp] theorem tfld_9_18 : tfld Try.prog 9 18 = none := by kernel_rfl
@[simp] theorem tfld_9_19 : tfld Try.prog 9 19 = none := by kernel_rfl
@[simp] theorem tfld_9_20 : tfld Try.prog 9 20 = none := by kernel_rfl
@[simp] theorem tfld_9_21 : tfld Try.prog 9 21 = none := by kernel_rfl
@[simp] theorem tfld_9_22 : tfld Try.prog 9 22 = none := by kernel_rfl
@[simp] theorem tfld_9_23 : tfld Try.prog 9 23 = none := by kernel_rfl
@[simp] theorem tfld_9_24 : tfld Try.prog 9 24 = none := by kernel_rfl
@[simp] theorem tfld_9_25 : tfld Try.prog 9 25 = none := by kernel_rfl
@[simp] theorem tfld_9_26 : tfld Try.prog 9 26 = none := by kernel_rfl
@[simp] theorem tfld_9_27 : tfld Try.prog 9 27 = none := by kernel_rfl
@[simp] theorem tfld_9_28 : tfld Try.prog 9 28 = none := by kernel_rfl
@[simp] theorem tfld_9_29 : tfld Try.prog 9 29 = none := by kernel_rfl
@[simp] theorem tsz_10 : tsz Try.prog 10 = some 1 := by kernel_rfl
@[simp] theorem tagg_10 : tagg Try.prog 10 = some false := by kernel_rfl
@[simp] theorem tzero_10 : tzero Try.prog 10 = some (Value.string { data := { toList := [] } }) := by kernel_rfl
@[simp] theorem tplaces_10 : tplaces Try.prog 10 = none := by kernel_rfl
@[simp] theorem telem_10 : telem Try.prog 10 = none := by kernel_rfl
@[simp] theorem tint_10 : tint Try.prog 10 = none := by kernel_rfl
@[simp] theorem tfld_10_0 : tfld Try.prog 10 0 = none := by kernel_rfl
@[simp] theorem tfld_10_1 : tfld Try.prog 10 1 = none := by kernel_rfl
@[simp] theorem tfld_10_2 : tfld Try.prog 10 2 = none := by kernel_rfl
@[simp] theorem tfld_10_3 : tfld Try.prog 10 3 = none := by kernel_rfl
@[simp] theorem tfld_10_4 : tfld Try.prog 10 4 = none := by kernel_rfl
@[simp] theorem tfld_10_5 : tfld Try.prog 10 5 = none := by kernel_rfl
@[simp] theorem tfld_10_6 : tfld Try.prog 10 6 = none := by kernel_rfl
@[simp] theorem tfld_10_7 : tfld Try.prog 10 7 = none := by kernel_rfl
@[simp] theorem tfld_10_8 : tfld Try.prog 10 8 = none := by kernel_rfl
@[simp] theorem tfld_10_9 : tfld Try.prog 10 9 = none := by kernel_rfl
@[simp] theorem tfld_10_10 : tfld Try.prog 10 10 = none := by kernel_rfl
@[simp] theorem tfld_10_11 : tfld Try.prog 10 11 = none := by kernel_rfl
@[simp] theorem tfld_10_12 : tfld Try.prog 10 12 = none := by kernel_rfl
@[simp] theorem tfld_10_13 : tfld Try.prog 10 13 = none := by kernel_rfl
@[simp] theorem tfld_10_14 : tfld Try.prog 10 14 = none := by kernel_rfl
@[simp] theorem tfld_10_15 : tfld Try.prog 10 15 = none := by kernel_rfl
@[simp] theorem tfld_10_16 : tfld Try.prog 10 16 = none := by kernel_rfl
@[simp] theorem tfld_10_17 : tfld Try.prog 10 17 = none := by kernel_rfl
@[simp] theorem tfld_10_18 : tfld Try.prog 10 18 = none := by kernel_rfl
@[simp] theorem tfld_10_19 : tfld Try.prog 10 19 = none := by kernel_rfl
@[simp] theorem tfld_10_20 : tfld Try.prog 10 20 = none := by kernel_rfl
@[simp] theorem tfld_10_21 : tfld Try.prog 10 21 = none := by kernel_rfl
@[simp] theorem tfld_10_22 : tfld Try.prog 10 22 = none := by kernel_rfl
@[simp] theorem tfld_10_23 : tfld Try.prog 10 23 = none := by kernel_rfl
@[simp] theorem tfld_10_24 : tfld Try.prog 10 24 = none := by kernel_rfl
@[simp] theorem tfld_10_25 : tfld Try.prog 10 25 = none := by kernel_rfl
@[simp] theorem tfld_10_26 : tfld Try.prog 10 26 = none := by kernel_rfl
@[simp] theorem tfld_10_27 : tfld Try.prog 10 27 = none := by kernel_rfl
@[simp] theorem tfld_10_28 : tfld Try.prog 10 28 = none := by kernel_rfl
@[simp] theorem tfld_10_29 : tfld Try.prog 10 29 = none := by kernel_rfl
@[simp] theorem tsz_11 : tsz Try.prog 11 = some 1 := by kernel_rfl
@[simp] theorem tagg_11 : tagg Try.prog 11 = some false := by kernel_rfl
@[simp] theorem tzero_11 : tzero Try.prog 11 = some (Value.string { data := { toList := [] } }) := by kernel_rfl
@[simp] theorem tplaces_11 : tplaces Try.prog 11 = none := by kernel_rfl
@[simp] theorem telem_11 : telem Try.prog 11 = none := by kernel_rfl
@[simp] theorem tint_11 : tint Try.prog 11 = none := by kernel_rfl
@[simp] theorem tfld_11_0 : tfld Try.prog 11 0 = none := by kernel_rfl
@[simp] theorem tfld_11_1 : tfld Try.prog 11 1 = none := by kernel_rfl
@[simp] theorem tfld_11_2 : tfld Try.prog 11 2 = none := by kernel_rfl
@[simp] theorem tfld_11_3 : tfld Try.prog 11 3 = none := by kernel_rfl
@[simp] theorem tfld_11_4 : tfld Try.prog 11 4 = none := by kernel_rfl
@[simp] theorem tfld_11_5 : tfld Try.prog 11 5 = none := by kernel_rfl
@[simp] theorem tfld_11_6 : tfld Try.prog 11 6 = none := by kernel_rfl
@[simp] theorem tfld_11_7 : tfld Try.prog 11 7 = none := by kernel_rfl
@[simp] theorem tfld_11_8 : tfld Try.prog 11 8 = none := by kernel_rfl
@[simp] theorem tfld_11_9 : tfld Try.prog 11 9 = none := by kernel_rfl
@[simp] theorem tfld_11_10 : tfld Try.prog 11 10 = none := by kernel_rfl
@[simp] theorem tfld_11_11 : tfld Try.prog 11 11 = none := by kernel_rfl
@[simp] theorem tfld_11_12 : tfld Try.prog 11 12 = none := by kernel_rfl
@[simp] theorem tfld_11_13 : tfld Try.prog 11 13 = none := by kernel_rfl
@[simp] theorem tfld_11_14 : tfld Try.prog 11 14 = none := by kernel_rfl
@[simp] theorem tfld_11_15 : tfld Try.prog 11 15 = none := by kernel_rfl
@[simp] theorem tfld_11_16 : tfld Try.prog 11 16 = none := by kernel_rfl
@[simp] theorem tfld_11_17 : tfld Try.prog 11 17 = none := by kernel_rfl
@[simp] theorem tfld_11_18 : tfld Try.prog 11 18 = none := by kernel_rfl
@[simp] theorem tfld_11_19 : tfld Try.prog 11 19 = none := by kernel_rfl
@[simp] theorem tfld_11_20 : tfld Try.prog 11 20 = none := by kernel_rfl
@[simp] theorem tfld_11_21 : tfld Try.prog 11 21 = none := by kernel_rfl
@[simp] theorem tfld_11_22 : tfld Try.prog 11 22 = none := by kernel_rfl
@[simp] theorem tfld_11_23 : tfld Try.prog 11 23 = none := by kernel_rfl
@[simp] theorem tfld_11_24 : tfld Try.prog 11 24 = none := by kernel_rfl
@[simp] theorem tfld_11_25 : tfld Try.prog 11 25 = none := by kernel_rfl
@[simp] theorem tfld_11_26 : tfld Try.prog 11 26 = none := by kernel_rfl
@[simp] theorem tfld_11_27 : tfld Try.prog 11 27 = none := by kernel_rfl
@[simp] theorem tfld_11_28 : tfld Try.prog 11 28 = none := by kernel_rfl
@[simp] theorem tfld_11_29 : tfld Try.prog 11 29 = none := by kernel_rfl
@[simp] theorem tsz_12 : tsz Try.prog 12 = some 1 := by kernel_rfl
@[simp] theorem tagg_12 : tagg Try.prog 12 = some false := by kernel_rfl
@[simp] theorem tzero_12 : tzero Try.prog 12 = some (Value.int IntKind.u64 (Int.ofNat 0)) := by kernel_rfl
@[simp] theorem tplaces_12 : tplaces Try.prog 12 = none := by kernel_rfl
@[simp] theorem telem_12 : telem Try.prog 12 = none := by kernel_rfl
@[simp] theorem tint_12 : tint Try.prog 12 = some IntKind.u64 := by kernel_rfl
@[simp] theorem tfld_12_0 : tfld Try.prog 12 0 = none := by kernel_rfl
@[simp] theorem tfld_12_1 : tfld Try.prog 12 1 = none := by kernel_rfl
@[simp] theorem tfld_12_2 : tfld Try.prog 12 2 = none := by kernel_rfl
@[simp] theorem tfld_12_3 : tfld Try.prog 12 3 = none := by kernel_rfl
@[simp] theorem tfld_12_4 : tfld Try.prog 12 4 = none := by kernel_rfl
@[simp] theorem tfld_12_5 : tfld Try.prog 12 5 = none := by kernel_rfl
@[simp] theorem tfld_12_6 : tfld Try.prog 12 6 = none := by kernel_rfl
@[simp] theorem tfld_12_7 : tfld Try.prog 12 7 = none := by kernel_rfl
@[simp] theorem tfld_12_8 : tfld Try.prog 12 8 = none := by kernel_rfl
@[simp] theorem tfld_12_9 : tfld Try.prog 12 9 = none := by kernel_rfl
@[simp] theorem tfld_12_10 : tfld Try.prog 12 10 = none := by kernel_rfl
@[simp] theorem tfld_12_11 : tfld Try.prog 12 11 = none := by kernel_rfl
@[simp] theorem tfld_12_12 : tfld Try.prog 12 12 = none := by kernel_rfl
@[simp] theorem tfld_12_13 : tfld Try.prog 12 13 = none := by kernel_rfl
@[simp] theorem tfld_12_14 : tfld Try.prog 12 14 = none := by kernel_rfl
@[simp] theorem tfld_12_15 : tfld Try.prog 12 15 = none := by kernel_rfl
@[simp] theorem tfld_12_16 : tfld Try.prog 12 16 = none := by kernel_rfl
@[simp] theorem tfld_12_17 : tfld Try.prog 12 17 = none := by kernel_rfl
@[simp] theorem tfld_12_18 : tfld Try.prog 12 18 = none := by kernel_rfl
@[simp] theorem tfld_12_19 : tfld Try.prog 12 19 = none := by kernel_rfl
@[simp] theorem tfld_12_20 : tfld Try.prog 12 20 = none := by kernel_rfl
@[simp] theorem tfld_12_21 : tfld Try.prog 12 21 = none := by kernel_rfl
@[simp] theorem tfld_12_22 : tfld Try.prog 12 22 = none := by kernel_rfl
@[simp] theorem tfld_12_23 : tfld Try.prog 12 23 = none := by kernel_rfl
@[simp] theorem tfld_12_24 : tfld Try.prog 12 24 = none := by kernel_rfl
@[simp] theorem tfld_12_25 : tfld Try.prog 12 25 = none := by kernel_rfl
@[simp] theorem tfld_12_26 : tfld Try.prog 12 26 = none := by kernel_rfl
@[simp] theorem tfld_12_27 : tfld Try.prog 12 27 = none := by kernel_rfl
@[simp] theorem tfld_12_28 : tfld Try.prog 12 28 = none := by kernel_rfl
@[simp] theorem tfld_12_29 : tfld Try.prog 12 29 = none := by kernel_rfl
@[simp] theorem tsz_13 : tsz Try.prog 13 = some 2 := by kernel_rfl
@[simp] theorem tagg_13 : tagg Try.prog 13 = some true := by kernel_rfl
@[simp] theorem tzero_13 : tzero Try.prog 13 = some (Value.agg { toList := [Value.string { data := { toList := [] } }, Value.int IntKind.u64 (Int.ofNat 0)] }) := by kernel_rfl
@[simp] theorem tplaces_13 : tplaces Try.prog 13 = some [(0, 1), (1, 1)] := by kernel_rfl
@[simp] theorem telem_13 : telem Try.prog 13 = none := by kernel_rfl
@[simp] theorem tint_13 : tint Try.prog 13 = none := by kernel_rfl
@[simp] theorem tfld_13_0 : tfld Try.prog 13 0 = some (0, 9) := by kernel_rfl
@[simp] theorem tfld_13_1 : tfld Try.prog 13 1 = some (1, 12) := by kernel_rfl
@[simp] theorem tfld_13_2 : tfld Try.prog 13 2 = none := by kernel_rfl
@[simp] theorem tfld_13_3 : tfld Try.prog 13 3 = none := by kernel_rfl
@[simp] theorem tfld_13_4 : tfld Try.prog 13 4 = none := by kernel_rfl
@[simp] theorem tfld_13_5 : tfld Try.prog 13 5 = none := by kernel_rfl
@[simp] theorem tfld_13_6 : tfld Try.prog 13 6 = none := by kernel_rfl
@[simp] theorem tfld_13_7 : tfld Try.prog 13 7 = none := by kernel_rfl
@[simp] theorem tfld_13_8 : tfld Try.prog 13 8 = none := by kernel_rfl
@[simp] theorem tfld_13_9 : tfld Try.prog 13 9 = none := by kernel_rfl
@[simp] theorem tfld_13_10 : tfld Try.prog 13 10 = none := by kernel_rfl
@[simp] theorem tfld_13_11 : tfld Try.prog 13 11 = none := by kernel_rfl
@[simp] theorem tfld_13_12 : tfld Try.prog 13 12 = none := by kernel_rfl
@[simp] theorem tfld_13_13 : tfld Try.prog 13 13 = none := by kernel_rfl
@[simp] theorem tfld_13_14 : tfld Try.prog 13 14 = none := by kernel_rfl
@[simp] theorem tfld_13_15 : tfld Try.prog 13 15 = none := by kernel_rfl
@[simp] theorem tfld_13_16 : tfld Try.prog 13 16 = none := by kernel_rfl
@[simp] theorem tfld_13_17 : tfld Try.prog 13 17 = none := by kernel_rfl
@[simp] theorem tfld_13_18 : tfld Try.prog 13 18 = none := by kernel_rfl
@[simp] theorem tfld_13_19 : tfld Try.prog 13 19 = none := by kernel_rfl
@[simp] theorem tfld_13_20 : tfld Try.prog 13 20 = none := by kernel_rfl
@[simp] theorem tfld_13_21 : tfld Try.prog 13 21 = none := by kernel_rfl
@[simp] theorem tfld_13_22 : tfld Try.prog 13 22 = none := by kernel_rfl
@[simp] theorem tfld_13_23 : tfld Try.prog 13 23 = none := by kernel_rfl
@[simp] theorem tfld_13_24 : tfld Try.prog 13 24 = none := by kernel_rfl
@[simp] theorem tfld_13_25 : tfld Try.prog 13 25 = none := by kernel_rfl
@[simp] theorem tfld_13_26 : tfld Try.prog 13 26 = none := by kernel_rfl
@[simp] theorem tfld_13_27 : tfld Try.prog 13 27 = none := by kernel_rfl
@[simp] theorem tfld_13_28 : tfld Try.prog 13 28 = none := by kernel_rfl
@[simp] theorem tfld_13_29 : tfld Try.prog 13 29 = none := by kernel_rfl
@[simp] theorem tsz_14 : tsz Try.prog 14 = some 2 := by kernel_rfl
@[simp] theorem tagg_14 : tagg Try.prog 14 = some true := by kernel_rfl
@[simp] theorem tzero_14 : tzero Try.prog 14 = some (Value.agg { toList := [Value.string { data := { toList := [] } }, Value.int IntKind.u64 (Int.ofNat 0)] }) := by kernel_rfl
@[simp] theorem tplaces_14 : tplaces Try.prog 14 = some [(0, 1), (1, 1)] := by kernel_rfl
@[simp] theorem telem_14 : telem Try.prog 14 = none := by kernel_rfl
@[simp] theorem tint_14 : tint Try.prog 14 = none := by kernel_rfl
@[simp] theorem tfld_14_0 : tfld Try.prog 14 0 = some (0, 9) := by kernel_rfl
@[simp] theorem tfld_14_1 : tfld Try.prog 14 1 = some (1, 12) := by kernel_rfl
@[simp] theorem tfld_14_2 : tfld Try.prog 14 2 = none := by kernel_rfl
@[simp] theorem tfld_14_3 : tfld Try.prog 14 3 = none := by kernel_rfl
@[simp] theorem tfld_14_4 : tfld Try.prog 14 4 = none := by kernel_rfl
@[simp] theorem tfld_14_5 : tfld Try.prog 14 5 = none := by kernel_rfl
@[simp] theorem tfld_14_6 : tfld Try.prog 14 6 = none := by kernel_rfl
@[simp] theorem tfld_14_7 : tfld Try.prog 14 7 = none := by kernel_rfl
@[simp] theorem tfld_14_8 : tfld Try.prog 14 8 = none := by kernel_rfl
@[simp] theorem tfld_14_9 : tfld Try.prog 14 9 = none := by kernel_rfl
@[simp] theorem tfld_14_10 : tfld Try.prog 14 10 = none := by kernel_rfl
@[simp] theorem tfld_14_11 : tfld Try.prog 14 11 = none := by kernel_rfl
@[simp] theorem tfld_14_12 : tfld Try.prog 14 12 = none := by kernel_rfl
@[simp] theorem tfld_14_13 : tfld Try.prog 14 13 = none := by kernel_rfl
@[simp] theorem tfld_14_14 : tfld Try.prog 14 14 = none := by kernel_rfl
@[simp] theorem tfld_14_15 : tfld Try.prog 14 15 = none := by kernel_rfl
@[simp] theorem tfld_14_16 : tfld Try.prog 14 16 = none := by kernel_rfl
@[simp] theorem tfld_14_17 : tfld Try.prog 14 17 = none := by kernel_rfl
@[simp] theorem tfld_14_18 : tfld Try.prog 14 18 = none := by kernel_rfl
@[simp] theorem tfld_14_19 : tfld Try.prog 14 19 = none := by kernel_rfl
@[simp] theorem tfld_14_20 : tfld Try.prog 14 20 = none := by kernel_rfl
@[simp] theorem tfld_14_21 : tfld Try.prog 14 21 = none := by kernel_rfl
@[simp] theorem tfld_14_22 : tfld Try.prog 14 22 = none := by kernel_rfl
@[simp] theorem tfld_14_23 : tfld Try.prog 14 23 = none := by kernel_rfl
@[simp] theorem tfld_14_24 : tfld Try.prog 14 24 = none := by kernel_rfl
@[simp] theorem tfld_14_25 : tfld Try.prog 14 25 = none := by kernel_rfl
@[simp] theorem tfld_14_26 : tfld Try.prog 14 26 = none := by kernel_rfl
@[simp] theorem tfld_14_27 : tfld Try.prog 14 27 = none := by kernel_rfl
@[simp] theorem tfld_14_28 : tfld Try.prog 14 28 = none := by kernel_rfl
@[simp] theorem tfld_14_29 : tfld Try.prog 14 29 = none := by kernel_rfl
@[simp] theorem tsz_15 : tsz Try.prog 15 = some 1 := by kernel_rfl
@[simp] theorem tagg_15 : tagg Try.prog 15 = some false := by kernel_rfl
@[simp] theorem tzero_15 : tzero Try.prog 15 = some (Value.pointer none) := by kernel_rfl
@[simp] theorem tplaces_15 : tplaces Try.prog 15 = none := by kernel_rfl
@[simp] theorem telem_15 : telem Try.prog 15 = none := by kernel_rfl
@[simp] theorem tint_15 : tint Try.prog 15 = none := by kernel_rfl
@[simp] theorem tfld_15_0 : tfld Try.prog 15 0 = none := by kernel_rfl
@[simp] theorem tfld_15_1 : tfld Try.prog 15 1 = none := by kernel_rfl
@[simp] theorem tfld_15_2 : tfld Try.prog 15 2 = none := by kernel_rfl
@[simp] theorem tfld_15_3 : tfld Try.prog 15 3 = none := by kernel_rfl
@[simp] theorem tfld_15_4 : tfld Try.prog 15 4 = none := by kernel_rfl
@[simp] theorem tfld_15_5 : tfld Try.prog 15 5 = none := by kernel_rfl
@[simp] theorem tfld_15_6 : tfld Try.prog 15 6 = none := by kernel_rfl
@[simp] theorem tfld_15_7 : tfld Try.prog 15 7 = none := by kernel_rfl
@[simp] theorem tfld_15_8 : tfld Try.prog 15 8 = none := by kernel_rfl
@[simp] theorem tfld_15_9 : tfld Try.prog 15 9 = none := by kernel_rfl
@[simp] theorem tfld_15_10 : tfld Try.prog 15 10 = none := by kernel_rfl
@[simp] theorem tfld_15_11 : tfld Try.prog 15 11 = none := by kernel_rfl
@[simp] theorem tfld_15_12 : tfld Try.prog 15 12 = none := by kernel_rfl
@[simp] theorem tfld_15_13 : tfld Try.prog 15 13 = none := by kernel_rfl
@[simp] theorem tfld_15_14 : tfld Try.prog 15 14 = none := by kernel_rfl
@[simp] theorem tfld_15_15 : tfld Try.prog 15 15 = none := by kernel_rfl
@[simp] theorem tfld_15_16 : tfld Try.prog 15 16 = none := by kernel_rfl
@[simp] theorem tfld_15_17 : tfld Try.prog 15 17 = none := by kernel_rfl
@[simp] theorem tfld_15_18 : tfld Try.prog 15 18 = none := by kernel_rfl
@[simp] theorem tfld_15_19 : tfld Try.prog 15 19 = none := by kernel_rfl
@[simp] theorem tfld_15_20 : tfld Try.prog 15 20 = none := by kernel_rfl
@[simp] theorem tfld_15_21 : tfld Try.prog 15 21 = none := by kernel_rfl
@[simp] theorem tfld_15_22 : tfld Try.prog 15 22 = none := by kernel_rfl
@[simp] theorem tfld_15_23 : tfld Try.prog 15 23 = none := by kernel_rfl
@[simp] theorem tfld_15_24 : tfld Try.prog 15 24 = none := by kernel_rfl
@[simp] theorem tfld_15_25 : tfld Try.prog 15 25 = none := by kernel_rfl
@[simp] theorem tfld_15_26 : tfld Try.prog 15 26 = none := by kernel_rfl
@[simp] theorem tfld_15_27 : tfld Try.prog 15 27 = none := by kernel_rfl
@[simp] theorem tfld_15_28 : tfld Try.prog 15 28 = none := by kernel_rfl
@[simp] theorem tfld_15_29 : tfld Try.prog 15 29 = none := by kernel_rfl
@[simp] theorem tsz_16 : tsz Try.prog 16 = some 1 := by kernel_rfl
@[simp] theorem tagg_16 : tagg Try.prog 16 = some false := by kernel_rfl
@[simp] theorem tzero_16 : tzero Try.prog 16 = some (Value.pointer none) := by kernel_rfl
@[simp] theorem tplaces_16 : tplaces Try.prog 16 = none := by kernel_rfl
@[simp] theorem telem_16 : telem Try.prog 16 = none := by kernel_rfl
@[simp] theorem tint_16 : tint Try.prog 16 = none := by kernel_rfl
@[simp] theorem tfld_16_0 : tfld Try.prog 16 0 = none := by kernel_rfl
@[simp] theorem tfld_16_1 : tfld Try.prog 16 1 = none := by kernel_rfl
@[simp] theorem tfld_16_2 : tfld Try.prog 16 2 = none := by kernel_rfl
@[simp] theorem tfld_16_3 : tfld Try.prog 16 3 = none := by kernel_rfl
@[simp] theorem tfld_16_4 : tfld Try.prog 16 4 = none := by kernel_rfl
@[simp] theorem tfld_16_5 : tfld Try.prog 16 5 = none := by kernel_rfl
@[simp] theorem tfld_16_6 : tfld Try.prog 16 6 = none := by kernel_rfl
@[simp] theorem tfld_16_7 : tfld Try.prog 16 7 = none := by kernel_rfl
@[simp] theorem tfld_16_8 : tfld Try.prog 16 8 = none := by kernel_rfl
@[simp] theorem tfld_16_9 : tfld Try.prog 16 9 = none := by kernel_rfl
@[simp] theorem tfld_16_10 : tfld Try.prog 16 10 = none := by kernel_rfl
@[simp] theorem tfld_16_11 : tfld Try.prog 16 11 = none := by kernel_rfl
@[simp] theorem tfld_16_12 : tfld Try.prog 16 12 = none := by kernel_rfl
@[simp] theorem tfld_16_13 : tfld Try.prog 16 13 = none := by kernel_rfl
@[simp] theorem tfld_16_14 : tfld Try.prog 16 14 = none := by kernel_rfl
@[simp] theorem tfld_16_15 : tfld Try.prog 16 15 = none := by kernel_rfl
@[simp] theorem tfld_16_16 : tfld Try.prog 16 16 = none := by kernel_rfl
@[simp] theorem tfld_16_17 : tfld Try.prog 16 17 = none := by kernel_rfl
@[simp] theorem tfld_16_18 : tfld Try.prog 16 18 = none := by kernel_rfl
@[simp] theorem tfld_16_19 : tfld Try.prog 16 19 = none := by kernel_rfl
@[simp] theorem tfld_16_20 : tfld Try.prog 16 20 = none := by kernel_rfl
@[simp] theorem tfld_16_21 : tfld Try.prog 16 21 = none := by kernel_rfl
@[simp] theorem tfld_16_22 : tfld Try.prog 16 22 = none := by kernel_rfl
@[simp] theorem tfld_16_23 : tfld Try.prog 16 23 = none := by kernel_rfl
@[simp] theorem tfld_16_24 : tfld Try.prog 16 24 = none := by kernel_rfl
@[simp] theorem tfld_16_25 : tfld Try.prog 16 25 = none := by kernel_rfl
@[simp] theorem tfld_16_26 : tfld Try.prog 16 26 = none := by kernel_rfl
@[simp] theorem tfld_16_27 : tfld Try.prog 16 27 = none := by kernel_rfl
@[simp] theorem tfld_16_28 : tfld Try.prog 16 28 = none := by kernel_rfl
@[simp] theorem tfld_16_29 : tfld Try.prog 16 29 = none := by kernel_rfl
@[simp] theorem tsz_17 : tsz Try.prog 17 = some 1 := by kernel_rfl
@[simp] theorem tagg_17 : tagg Try.prog 17 = some false := by kernel_rfl
@[simp] theorem tzero_17 : tzero Try.prog 17 = some (Value.pointer none) := by kernel_rfl
@[simp] theorem tplaces_17 : tplaces Try.prog 17 = none := by kernel_rfl
@[simp] theorem telem_17 : telem Try.prog 17 = none := by kernel_rfl
@[simp] theorem tint_17 : tint Try.prog 17 = none := by kernel_rfl
@[simp] theorem tfld_17_0 : tfld Try.prog 17 0 = none := by kernel_rfl
@[simp] theorem tfld_17_1 : tfld Try.prog 17 1 = none := by kernel_rfl
@[simp] theorem tfld_17_2 : tfld Try.prog 17 2 = none := by kernel_rfl
@[simp] theorem tfld_17_3 : tfld Try.prog 17 3 = none := by kernel_rfl
@[simp] theorem tfld_17_4 : tfld Try.prog 17 4 = none := by kernel_rfl
@[simp] theorem tfld_17_5 : tfld Try.prog 17 5 = none := by kernel_rfl
@[simp] theorem tfld_17_6 : tfld Try.prog 17 6 = none := by kernel_rfl
@[simp] theorem tfld_17_7 : tfld Try.prog 17 7 = none := by kernel_rfl
@[simp] theorem tfld_17_8 : tfld Try.prog 17 8 = none := by kernel_rfl
@[simp] theorem tfld_17_9 : tfld Try.prog 17 9 = none := by kernel_rfl
@[simp] theorem tfld_17_10 : tfld Try.prog 17 10 = none := by kernel_rfl
@[simp] theorem tfld_17_11 : tfld Try.prog 17 11 = none := by kernel_rfl
@[simp] theorem tfld_17_12 : tfld Try.prog 17 12 = none := by kernel_rfl
@[simp] theorem tfld_17_13 : tfld Try.prog 17 13 = none := by kernel_rfl
@[simp] theorem tfld_17_14 : tfld Try.prog 17 14 = none := by kernel_rfl
@[simp] theorem tfld_17_15 : tfld Try.prog 17 15 = none := by kernel_rfl
@[simp] theorem tfld_17_16 : tfld Try.prog 17 16 = none := by kernel_rfl
@[simp] theorem tfld_17_17 : tfld Try.prog 17 17 = none := by kernel_rfl
@[simp] theorem tfld_17_18 : tfld Try.prog 17 18 = none := by kernel_rfl
@[simp] theorem tfld_17_19 : tfld Try.prog 17 19 = none := by kernel_rfl
@[simp] theorem tfld_17_20 : tfld Try.prog 17 20 = none := by kernel_rfl
@[simp] theorem tfld_17_21 : tfld Try.prog 17 21 = none := by kernel_rfl
@[simp] theorem tfld_17_22 : tfld Try.prog 17 22 = none := by kernel_rfl
@[simp] theorem tfld_17_23 : tfld Try.prog 17 23 = none := by kernel_rfl
@[simp] theorem tfld_17_24 : tfld Try.prog 17 24 = none := by kernel_rfl
@[simp] theorem tfld_17_25 : tfld Try.prog 17 25 = none := by kernel_rfl
@[simp] theorem tfld_17_26 : tfld Try.prog 17 26 = none := by kernel_rfl
@[simp] theorem tfld_17_27 : tfld Try.prog 17 27 = none := by kernel_rfl
@[simp] theorem tfld_17_28 : tfld Try.prog 17 28 = none := by kernel_rfl
@[simp] theorem tfld_17_29 : tfld Try.prog 17 29 = none := by kernel_rfl
@[simp] theorem tsz_18 : tsz Try.prog 18 = some 1 := by kernel_rfl
@[simp] theorem tagg_18 : tagg Try.prog 18 = some true := by kernel_rfl
@[simp] theorem tzero_18 : tzero Try.prog 18 = some (Value.agg { toList := [Value.pointer none] }) := by kernel_rfl
@[simp] theorem tplaces_18 : tplaces Try.prog 18 = some [(0, 1)] := by kernel_rfl
@[simp] theorem telem_18 : telem Try.prog 18 = none := by kernel_rfl
@[simp] theorem tint_18 : tint Try.prog 18 = none := by kernel_rfl
@[simp] theorem tfld_18_0 : tfld Try.prog 18 0 = some (0, 17) := by kernel_rfl
@[simp] theorem tfld_18_1 : tfld Try.prog 18 1 = none := by kernel_rfl
@[simp] theorem tfld_18_2 : tfld Try.prog 18 2 = none := by kernel_rfl
@[simp] theorem tfld_18_3 : tfld Try.prog 18 3 = none := by kernel_rfl
@[simp] theorem tfld_18_4 : tfld Try.prog 18 4 = none := by kernel_rfl
@[simp] theorem tfld_18_5 : tfld Try.prog 18 5 = none := by kernel_rfl
@[simp] theorem tfld_18_6 : tfld Try.prog 18 6 = none := by kernel_rfl
@[simp] theorem tfld_18_7 : tfld Try.prog 18 7 = none := by kernel_rfl
@[simp] theorem tfld_18_8 : tfld Try.prog 18 8 = none := by kernel_rfl
@[simp] theorem tfld_18_9 : tfld Try.prog 18 9 = none := by kernel_rfl
@[simp] theorem tfld_18_10 : tfld Try.prog 18 10 = none := by kernel_rfl
@[simp] theorem tfld_18_11 : tfld Try.prog 18 11 = none := by kernel_rfl
@[simp] theorem tfld_18_12 : tfld Try.prog 18 12 = none := by kernel_rfl
@[simp] theorem tfld_18_13 : tfld Try.prog 18 13 = none := by kernel_rfl
@[simp] theorem tfld_18_14 : tfld Try.prog 18 14 = none := by kernel_rfl
@[simp] theorem tfld_18_15 : tfld Try.prog 18 15 = none := by kernel_rfl
@[simp] theorem tfld_18_16 : tfld Try.prog 18 16 = none := by kernel_rfl
@[simp] theorem tfld_18_17 : tfld Try.prog 18 17 = none := by kernel_rfl
@[simp] theorem tfld_18_18 : tfld Try.prog 18 18 = none := by kernel_rfl
@[simp] theorem tfld_18_19 : tfld Try.prog 18 19 = none := by kernel_rfl
@[simp] theorem tfld_18_20 : tfld Try.prog 18 20 = none := by kernel_rfl
@[simp] theorem tfld_18_21 : tfld Try.prog 18 21 = none := by kernel_rfl
@[simp] theorem tfld_18_22 : tfld Try.prog 18 22 = none := by kernel_rfl
@[simp] theorem tfld_18_23 : tfld Try.prog 18 23 = none := by kernel_rfl
@[simp] theorem tfld_18_24 : tfld Try.prog 18 24 = none := by kernel_rfl
@[simp] theorem tfld_18_25 : tfld Try.prog 18 25 = none := by kernel_rfl
@[simp] theorem tfld_18_26 : tfld Try.prog 18 26 = none := by kernel_rfl
@[simp] theorem tfld_18_27 : tfld Try.prog 18 27 = none := by kernel_rfl
@[simp] theorem tfld_18_28 : tfld Try.prog 18 28 = none := by kernel_rfl
@[simp] theorem tfld_18_29 : tfld Try.prog 18 29 = none := by kernel_rfl
@[simp] theorem tsz_19 : tsz Try.prog 19 = some 1 := by kernel_rfl
@[simp] theorem tagg_19 : tagg Try.prog 19 = some true := by kernel_rfl
@[simp] theorem tzero_19 : tzero Try.prog 19 = some (Value.agg { toList := [Value.pointer none] }) := by kernel_rfl
@[simp] theorem tplaces_19 : tplaces Try.prog 19 = some [(0, 1)] := by kernel_rfl
@[simp] theorem telem_19 : telem Try.prog 19 = none := by kernel_rfl
@[simp] theorem tint_19 : tint Try.prog 19 = none := by kernel_rfl
@[simp] theorem tfld_19_0 : tfld Try.prog 19 0 = some (0, 17) := by kernel_rfl
@[simp] theorem tfld_19_1 : tfld Try.prog 19 1 = none := by kernel_rfl
@[simp] theorem tfld_19_2 : tfld Try.prog 19 2 = none := by kernel_rfl
@[simp] theorem tfld_19_3 : tfld Try.prog 19 3 = none := by kernel_rfl
@[simp] theorem tfld_19_4 : tfld Try.prog 19 4 = none := by kernel_rfl
@[simp] theorem tfld_19_5 : tfld Try.prog 19 5 = none := by kernel_rfl
@[simp] theorem tfld_19_6 : tfld Try.prog 19 6 = none := by kernel_rfl
@[simp] theorem tfld_19_7 : tfld Try.prog 19 7 = none := by kernel_rfl
@[simp] theorem tfld_19_8 : tfld Try.prog 19 8 = none := by kernel_rfl
@[simp] theorem tfld_19_9 : tfld Try.prog 19 9 = none := by kernel_rfl
@[simp] theorem tfld_19_10 : tfld Try.prog 19 10 = none := by kernel_rfl
@[simp] theorem tfld_19_11 : tfld Try.prog 19 11 = none := by kernel_rfl
@[simp] theorem tfld_19_12 : tfld Try.prog 19 12 = none := by kernel_rfl
@[simp] theorem tfld_19_13 : tfld Try.prog 19 13 = none := by kernel_rfl
@[simp] theorem tfld_19_14 : tfld Try.prog 19 14 = none := by kernel_rfl
@[simp] theorem tfld_19_15 : tfld Try.prog 19 15 = none := by kernel_rfl
@[simp] theorem tfld_19_16 : tfld Try.prog 19 16 = none := by kernel_rfl
@[simp] theorem tfld_19_17 : tfld Try.prog 19 17 = none := by kernel_rfl
@[simp] theorem tfld_19_18 : tfld Try.prog 19 18 = none := by kernel_rfl
@[simp] theorem tfld_19_19 : tfld Try.prog 19 19 = none := by kernel_rfl
@[simp] theorem tfld_19_20 : tfld Try.prog 19 20 = none := by kernel_rfl
@[simp] theorem tfld_19_21 : tfld Try.prog 19 21 = none := by kernel_rfl
@[simp] theorem tfld_19_22 : tfld Try.prog 19 22 = none := by kernel_rfl
@[simp] theorem tfld_19_23 : tfld Try.prog 19 23 = none := by kernel_rfl
@[simp] theorem tfld_19_24 : tfld Try.prog 19 24 = none := by kernel_rfl
@[simp] theorem tfld_19_25 : tfld Try.prog 19 25 = none := by kernel_rfl
@[simp] theorem tfld_19_26 : tfld Try.prog 19 26 = none := by kernel_rfl
@[simp] theorem tfld_19_27 : tfld Try.prog 19 27 = none := by kernel_rfl
@[simp] theorem tfld_19_28 : tfld Try.prog 19 28 = none := by kernel_rfl
@[simp] theorem tfld_19_29 : tfld Try.prog 19 29 = none := by kernel_rfl
@[simp] theorem tsz_20 : tsz Try.prog 20 = some 1 := by kernel_rfl
@[simp] theorem tagg_20 : tagg Try.prog 20 = some false := by kernel_rfl
@[simp] theorem tzero_20 : tzero Try.prog 20 = some Value.nilIface := by kernel_rfl
@[simp] theorem tplaces_20 : tplaces Try.prog 20 = none := by kernel_rfl
@[simp] theorem telem_20 : telem Try.prog 20 = none := by kernel_rfl
@[simp] theorem tint_20 : tint Try.prog 20 = none := by kernel_rfl
@[simp] theorem tfld_20_0 : tfld Try.prog 20 0 = none := by kernel_rfl
@[simp] theorem tfld_20_1 : tfld Try.prog 20 1 = none := by kernel_rfl
@[simp] theorem tfld_20_2 : tfld Try.prog 20 2 = none := by kernel_rfl
@[simp] theorem tfld_20_3 : tfld Try.prog 20 3 = none := by kernel_rfl
@[simp] theorem tfld_20_4 : tfld Try.prog 20 4 = none := by kernel_rfl
@[simp] theorem tfld_20_5 : tfld Try.prog 20 5 = none := by kernel_rfl
@[simp] theorem tfld_20_6 : tfld Try.prog 20 6 = none := by kernel_rfl
@[simp] theorem tfld_20_7 : tfld Try.prog 20 7 = none := by kernel_rfl
@[simp] theorem tfld_20_8 : tfld Try.prog 20 8 = none := by kernel_rfl
@[simp] theorem tfld_20_9 : tfld Try.prog 20 9 = none := by kernel_rfl
@[simp] theorem tfld_20_10 : tfld Try.prog 20 10 = none := by kernel_rfl
@[simp] theorem tfld_20_11 : tfld Try.prog 20 11 = none := by kernel_rfl
@[simp] theorem tfld_20_12 : tfld Try.prog 20 12 = none := by kernel_rfl
@[simp] theorem tfld_20_13 : tfld Try.prog 20 13 = none := by kernel_rfl
@[simp] theorem tfld_20_14 : tfld Try.prog 20 14 = none := by kernel_rfl
@[simp] theorem tfld_20_15 : tfld Try.prog 20 15 = none := by kernel_rfl
@[simp] theorem tfld_20_16 : tfld Try.prog 20 16 = none := by kernel_rfl
@[simp] theorem tfld_20_17 : tfld Try.prog 20 17 = none := by kernel_rfl
@[simp] theorem tfld_20_18 : tfld Try.prog 20 18 = none := by kernel_rfl
@[simp] theorem tfld_20_19 : tfld Try.prog 20 19 = none := by kernel_rfl
@[simp] theorem tfld_20_20 : tfld Try.prog 20 20 = none := by kernel_rfl
@[simp] theorem tfld_20_21 : tfld Try.prog 20 21 = none := by kernel_rfl
@[simp] theorem tfld_20_22 : tfld Try.prog 20 22 = none := by kernel_rfl
@[simp] theorem tfld_20_23 : tfld Try.prog 20 23 = none := by kernel_rfl
@[simp] theorem tfld_20_24 : tfld Try.prog 20 24 = none := by kernel_rfl
@[simp] theorem tfld_20_25 : tfld Try.prog 20 25 = none := by kernel_rfl
@[simp] theorem tfld_20_26 : tfld Try.prog 20 26 = none := by kernel_rfl
@[simp] theorem tfld_20_27 : tfld Try.prog 20 27 = none := by kernel_rfl
@[simp] theorem tfld_20_28 : tfld Try.prog 20 28 = none := by kernel_rfl
@[simp] theorem tfld_20_29 : tfld Try.prog 20 29 = none := by kernel_rfl
@[simp] theorem tsz_21 : tsz Try.prog 21 = some 1 := by kernel_rfl
@[simp] theorem tagg_21 : tagg Try.prog 21 = some false := by kernel_rfl
@[simp] theorem tzero_21 : tzero Try.prog 21 = some (Value.int IntKind.i32 (Int.ofNat 0)) := by kernel_rfl
@[simp] theorem tplaces_21 : tplaces Try.prog 21 = none := by kernel_rfl
@[simp] theorem telem_21 : telem Try.prog 21 = none := by kernel_rfl
@[simp] theorem tint_21 : tint Try.prog 21 = some IntKind.i32 := by kernel_rfl
@[simp] theorem tfld_21_0 : tfld Try.prog 21 0 = none := by kernel_rfl
@[simp] theorem tfld_21_1 : tfld Try.prog 21 1 = none := by kernel_rfl
@[simp] theorem tfld_21_2 : tfld Try.prog 21 2 = none := by kernel_rfl
@[simp] theorem tfld_21_3 : tfld Try.prog 21 3 = none := by kernel_rfl
@[simp] theorem tfld_21_4 : tfld Try.prog 21 4 = none := by kernel_rfl
@[simp] theorem tfld_21_5 : tfld Try.prog 21 5 = none := by kernel_rfl
@[simp] theorem tfld_21_6 : tfld Try.prog 21 6 = none := by kernel_rfl
@[simp] theorem tfld_21_7 : tfld Try.prog 21 7 = none := by kernel_rfl
@[simp] theorem tfld_21_8 : tfld Try.prog 21 8 = none := by kernel_rfl
@[simp] theorem tfld_21_9 : tfld Try.prog 21 9 = none := by kernel_rfl
@[simp] theorem tfld_21_10 : tfld Try.prog 21 10 = none := by kernel_rfl
@[simp] theorem tfld_21_11 : tfld Try.prog 21 11 = none := by kernel_rfl
@[simp] theorem tfld_21_12 : tfld Try.prog 21 12 = none := by kernel_rfl
@[simp] theorem tfld_21_13 : tfld Try.prog 21 13 = none := by kernel_rfl
@[simp] theorem tfld_21_14 : tfld Try.prog 21 14 = none := by kernel_rfl
@[simp] theorem tfld_21_15 : tfld Try.prog 21 15 = none := by kernel_rfl
@[simp] theorem tfld_21_16 : tfld Try.prog 21 16 = none := by kernel_rfl
@[simp] theorem tfld_21_17 : tfld Try.prog 21 17 = none := by kernel_rfl
@[simp] theorem tfld_21_18 : tfld Try.prog 21 18 = none := by kernel_rfl
@[simp] theorem tfld_21_19 : tfld Try.prog 21 19 = none := by kernel_rfl
@[simp] theorem tfld_21_20 : tfld Try.prog 21 20 = none := by kernel_rfl
@[simp] theorem tfld_21_21 : tfld Try.prog 21 21 = none := by kernel_rfl
@[simp] theorem tfld_21_22 : tfld Try.prog 21 22 = none := by kernel_rfl
@[simp] theorem tfld_21_23 : tfld Try.prog 21 23 = none := by kernel_rfl
@[simp] theorem tfld_21_24 : tfld Try.prog 21 24 = none := by kernel_rfl
@[simp] theorem tfld_21_25 : tfld Try.prog 21 25 = none := by kernel_rfl
@[simp] theorem tfld_21_26 : tfld Try.prog 21 26 = none := by kernel_rfl
@[simp] theorem tfld_21_27 : tfld Try.prog 21 27 = none := by kernel_rfl
@[simp] theorem tfld_21_28 : tfld Try.prog 21 28 = none := by kernel_rfl
@[simp] theorem tfld_21_29 : tfld Try.prog 21 29 = none := by kernel_rfl
@[simp] theorem tsz_22 : tsz Try.prog 22 = some 1 := by kernel_rfl
@[simp] theorem tagg_22 : tagg Try.prog 22 = some false := by kernel_rfl
@[simp] theorem tzero_22 : tzero Try.prog 22 = some (Value.slice none 0 0) := by kernel_rfl
@[simp] theorem tplaces_22 : tplaces Try.prog 22 = none := by kernel_rfl
@[simp] theorem telem_22 : telem Try.prog 22 = some (none, 3, 1) := by kernel_rfl
@[simp] theorem tint_22 : tint Try.prog 22 = none := by kernel_rfl
@[simp] theorem tfld_22_0 : tfld Try.prog 22 0 = none := by kernel_rfl
@[simp] theorem tfld_22_1 : tfld Try.prog 22 1 = none := by kernel_rfl
@[simp] theorem tfld_22_2 : tfld Try.prog 22 2 = none := by kernel_rfl
@[simp] theorem tfld_22_3 : tfld Try.prog 22 3 = none := by kernel_rfl
@[simp] theorem tfld_22_4 : tfld Try.prog 22 4 = none := by kernel_rfl
@[simp] theorem tfld_22_5 : tfld Try.prog 22 5 = none := by kernel_rfl
@[simp] theorem tfld_22_6 : tfld Try.prog 22 6 = none := by kernel_rfl
@[simp] theorem tfld_22_7 : tfld Try.prog 22 7 = none := by kernel_rfl
@[simp] theorem tfld_22_8 : tfld Try.prog 22 8 = none := by kernel_rfl
@[simp] theorem tfld_22_9 : tfld Try.prog 22 9 = none := by kernel_rfl
@[simp] theorem tfld_22_10 : tfld Try.prog 22 10 = none := by kernel_rfl
@[simp] theorem tfld_22_11 : tfld Try.prog 22 11 = none := by kernel_rfl
@[simp] theorem tfld_22_12 : tfld Try.prog 22 12 = none := by kernel_rfl
@[simp] theorem tfld_22_13 : tfld Try.prog 22 13 = none := by kernel_rfl
@[simp] theorem tfld_22_14 : tfld Try.prog 22 14 = none := by kernel_rfl
@[simp] theorem tfld_22_15 : tfld Try.prog 22 15 = none := by kernel_rfl
@[simp] theorem tfld_22_16 : tfld Try.prog 22 16 = none := by kernel_rfl
@[simp] theorem tfld_22_17 : tfld Try.prog 22 17 = none := by kernel_rfl
@[simp] theorem tfld_22_18 : tfld Try.prog 22 18 = none := by kernel_rfl
@[simp] theorem tfld_22_19 : tfld Try.prog 22 19 = none := by kernel_rfl
@[simp] theorem tfld_22_20 : tfld Try.prog 22 20 = none := by kernel_rfl
@[simp] theorem tfld_22_21 : tfld Try.prog 22 21 = none := by kernel_rfl
@[simp] theorem tfld_22_22 : tfld Try.prog 22 22 = none := by kernel_rfl
@[simp] theorem tfld_22_23 : tfld Try.prog 22 23 = none := by kernel_rfl
@[simp] theorem tfld_22_24 : tfld Try.prog 22 24 = none := by kernel_rfl
@[simp] theorem tfld_22_25 : tfld Try.prog 22 25 = none := by kernel_rfl
@[simp] theorem tfld_22_26 : tfld Try.prog 22 26 = none := by kernel_rfl
@[simp] theorem tfld_22_27 : tfld Try.prog 22 27 = none := by kernel_rfl
@[simp] theorem tfld_22_28 : tfld Try.prog 22 28 = none := by kernel_rfl
@[simp] theorem tfld_22_29 : tfld Try.prog 22 29 = none := by kernel_rfl
@[simp] theorem tsz_23 : tsz Try.prog 23 = some 2 := by kernel_rfl
@[simp] theorem tagg_23 : tagg Try.prog 23 = some true := by kernel_rfl
@[simp] theorem tzero_23 : tzero Try.prog 23 = some (Value.agg { toList := [Value.int IntKind.i64 (Int.ofNat 0), Value.int IntKind.i64 (Int.ofNat 0)] }) := by kernel_rfl
@[simp] theorem tplaces_23 : tplaces Try.prog 23 = some [(0, 1), (1, 1)] := by kernel_rfl
@[simp] theorem telem_23 : telem Try.prog 23 = none := by kernel_rfl
@[simp] theorem tint_23 : tint Try.prog 23 = none := by kernel_rfl
@[simp] theorem tfld_23_0 : tfld Try.prog 23 0 = some (0, 3) := by kernel_rfl
@[simp] theorem tfld_23_1 : tfld Try.prog 23 1 = some (1, 3) := by kernel_rfl
@[simp] theorem tfld_23_2 : tfld Try.prog 23 2 = none := by kernel_rfl
@[simp] theorem tfld_23_3 : tfld Try.prog 23 3 = none := by kernel_rfl
@[simp] theorem tfld_23_4 : tfld Try.prog 23 4 = none := by kernel_rfl
@[simp] theorem tfld_23_5 : tfld Try.prog 23 5 = none := by kernel_rfl
@[simp] theorem tfld_23_6 : tfld Try.prog 23 6 = none := by kernel_rfl
@[simp] theorem tfld_23_7 : tfld Try.prog 23 7 = none := by kernel_rfl
@[simp] theorem tfld_23_8 : tfld Try.prog 23 8 = none := by kernel_rfl
@[simp] theorem tfld_23_9 : tfld Try.prog 23 9 = none := by kernel_rfl
@[simp] theorem tfld_23_10 : tfld Try.prog 23 10 = none := by kernel_rfl
@[simp] theorem tfld_23_11 : tfld Try.prog 23 11 = none := by kernel_rfl
@[simp] theorem tfld_23_12 : tfld Try.prog 23 12 = none := by kernel_rfl
@[simp] theorem tfld_23_13 : tfld Try.prog 23 13 = none := by kernel_rfl
@[simp] theorem tfld_23_14 : tfld Try.prog 23 14 = none := by kernel_rfl
@[simp] theorem tfld_23_15 : tfld Try.prog 23 15 = none := by kernel_rfl
@[simp] theorem tfld_23_16 : tfld Try.prog 23 16 = none := by kernel_rfl
@[simp] theorem tfld_23_17 : tfld Try.prog 23 17 = none := by kernel_rfl
@[simp] theorem tfld_23_18 : tfld Try.prog 23 18 = none := by kernel_rfl
@[simp] theorem tfld_23_19 : tfld Try.prog 23 19 = none := by kernel_rfl
@[simp] theorem tfld_23_20 : tfld Try.prog 23 20 = none := by kernel_rfl
@[simp] theorem tfld_23_21 : tfld Try.prog 23 21 = none := by kernel_rfl
@[simp] theorem tfld_23_22 : tfld Try.prog 23 22 = none := by kernel_rfl
@[simp] theorem tfld_23_23 : tfld Try.prog 23 23 = none := by kernel_rfl
@[simp] theorem tfld_23_24 : tfld Try.prog 23 24 = none := by kernel_rfl
@[simp] theorem tfld_23_25 : tfld Try.prog 23 25 = none := by kernel_rfl
@[simp] theorem tfld_23_26 : tfld Try.prog 23 26 = none := by kernel_rfl
@[simp] theorem tfld_23_27 : tfld Try.prog 23 27 = none := by kernel_rfl
@[simp] theorem tfld_23_28 : tfld Try.prog 23 28 = none := by kernel_rfl
@[simp] theorem tfld_23_29 : tfld Try.prog 23 29 = none := by kernel_rfl
@[simp] theorem tsz_24 : tsz Try.prog 24 = some 2 := by kernel_rfl
@[simp] theorem tagg_24 : tagg Try.prog 24 = some true := by kernel_rfl
@[simp] theorem tzero_24 : tzero Try.prog 24 = some (Value.agg { toList := [Value.int IntKind.i64 (Int.ofNat 0), Value.int IntKind.i64 (Int.ofNat 0)] }) := by kernel_rfl
@[simp] theorem tplaces_24 : tplaces Try.prog 24 = some [(0, 1), (1, 1)] := by kernel_rfl
@[simp] theorem telem_24 : telem Try.prog 24 = none := by kernel_rfl
@[simp] theorem tint_24 : tint Try.prog 24 = none := by kernel_rfl
@[simp] theorem tfld_24_0 : tfld Try.prog 24 0 = some (0, 3) := by kernel_rfl
@[simp] theorem tfld_24_1 : tfld Try.prog 24 1 = some (1, 3) := by kernel_rfl
@[simp] theorem tfld_24_2 : tfld Try.prog 24 2 = none := by kernel_rfl
@[simp] theorem tfld_24_3 : tfld Try.prog 24 3 = none := by kernel_rfl
@[simp] theorem tfld_24_4 : tfld Try.prog 24 4 = none := by kernel_rfl
@[simp] theorem tfld_24_5 : tfld Try.prog 24 5 = none := by kernel_rfl
@[simp] theorem tfld_24_6 : tfld Try.prog 24 6 = none := by kernel_rfl
@[simp] theorem tfld_24_7 : tfld Try.prog 24 7 = none := by kernel_rfl
@[simp] theorem tfld_24_8 : tfld Try.prog 24 8 = none := by kernel_rfl
@[simp] theorem tfld_24_9 : tfld Try.prog 24 9 = none := by kernel_rfl
@[simp] theorem tfld_24_10 : tfld Try.prog 24 10 = none := by kernel_rfl
@[simp] theorem tfld_24_11 : tfld Try.prog 24 11 = none := by kernel_rfl
@[simp] theorem tfld_24_12 : tfld Try.prog 24 12 = none := by kernel_rfl
@[simp] theorem tfld_24_13 : tfld Try.prog 24 13 = none := by kernel_rfl
@[simp] theorem tfld_24_14 : tfld Try.prog 24 14 = none := by kernel_rfl
@[simp] theorem tfld_24_15 : tfld Try.prog 24 15 = none := by kernel_rfl
@[simp] theorem tfld_24_16 : tfld Try.prog 24 16 = none := by kernel_rfl
@[simp] theorem tfld_24_17 : tfld Try.prog 24 17 = none := by kernel_rfl
@[simp] theorem tfld_24_18 : tfld Try.prog 24 18 = none := by kernel_rfl
@[simp] theorem tfld_24_19 : tfld Try.prog 24 19 = none := by kernel_rfl
@[simp] theorem tfld_24_20 : tfld Try.prog 24 20 = none := by kernel_rfl
@[simp] theorem tfld_24_21 : tfld Try.prog 24 21 = none := by kernel_rfl
@[simp] theorem tfld_24_22 : tfld Try.prog 24 22 = none := by kernel_rfl
@[simp] theorem tfld_24_23 : tfld Try.prog 24 23 = none := by kernel_rfl
@[simp] theorem tfld_24_24 : tfld Try.prog 24 24 = none := by kernel_rfl
@[simp] theorem tfld_24_25 : tfld Try.prog 24 25 = none := by kernel_rfl
@[simp] theorem tfld_24_26 : tfld Try.prog 24 26 = none := by kernel_rfl
@[simp] theorem tfld_24_27 : tfld Try.prog 24 27 = none := by kernel_rfl
@[simp] theorem tfld_24_28 : tfld Try.prog 24 28 = none := by kernel_rfl
@[simp] theorem tfld_24_29 : tfld Try.prog 24 29 = none := by kernel_rfl
@[simp] theorem tsz_25 : tsz Try.prog 25 = some 21 := by kernel_rfl
@[simp] theorem tagg_25 : tagg Try.prog 25 = some true := by kernel_rfl
@[simp] theorem tzero_25 : tzero Try.prog 25 = some
  (Value.agg
    {
      toList :=
        [Value.slice none 0 0, Value.slice none 0 0, Value.int IntKind.i64 (Int.ofNat 0), Value.int IntKind.i64 (Int.ofNat 0), Value.int IntKind.i64 (Int.ofNat 0), Value.int IntKind.i64 (Int.ofNat 0),
          Value.int IntKind.i64 (Int.ofNat 0), Value.int IntKind.i64 (Int.ofNat 0), Value.int IntKind.i64 (Int.ofNat 0), Value.int IntKind.i64 (Int.ofNat 0), Value.int IntKind.i64 (Int.ofNat 0),
          Value.int IntKind.i64 (Int.ofNat 0), Value.int IntKind.i64 (Int.ofNat 0), Value.int IntKind.i64 (Int.ofNat 0), Value.int IntKind.i64 (Int.ofNat 0), Value.int IntKind.i64 (Int.ofNat 0),
          Value.int IntKind.i64 (Int.ofNat 0), Value.int IntKind.i64 (Int.ofNat 0), Value.int IntKind.i64 (Int.ofNat 0), Value.int IntKind.i64 (Int.ofNat 0), Value.int IntKind.i64 (Int.ofNat 0)] }) := by kernel_rfl
@[simp] theorem tplaces_25 : tplaces Try.prog 25 = some [(0, 1), (1, 1), (2, 1), (3, 1), (4, 1), (5, 1), (6, 1), (7, 2), (9, 2), (11, 1), (12, 1), (13, 1), (14, 1), (15, 1), (16, 1), (17, 1), (18, 1), (19, 1), (20, 1)] := by kernel_rfl
@[simp] theorem telem_25 : telem Try.prog 25 = none := by kernel_rfl
@[simp] theorem tint_25 : tint Try.prog 25 = none := by kernel_rfl
@[simp] theorem tfld_25_0 : tfld Try.prog 25 0 = some (0, 22) := by kernel_rfl
@[simp] theorem tfld_25_1 : tfld Try.prog 25 1 = some (1, 22) := by kernel_rfl
@[simp] theorem tfld_25_2 : tfld Try.prog 25 2 = some (2, 3) := by kernel_rfl
@[simp] theorem tfld_25_3 : tfld Try.prog 25 3 = some (3, 3) := by kernel_rfl
@[simp] theorem tfld_25_4 : tfld Try.prog 25 4 = some (4, 3) := by kernel_rfl
@[simp] theorem tfld_25_5 : tfld Try.prog 25 5 = some (5, 3) := by kernel_rfl
@[simp] theorem tfld_25_6 : tfld Try.prog 25 6 = some (6, 3) := by kernel_rfl
@[simp] theorem tfld_25_7 : tfld Try.prog 25 7 = some (7, 24) := by kernel_rfl
@[simp] theorem tfld_25_8 : tfld Try.prog 25 8 = some (9, 24) := by kernel_rfl
@[simp] theorem tfld_25_9 : tfld Try.prog 25 9 = some (11, 3) := by kernel_rfl
@[simp] theorem tfld_25_10 : tfld Try.prog 25 10 = some (12, 3) := by kernel_rfl
@[simp] theorem tfld_25_11 : tfld Try.prog 25 11 = some (13, 3) := by kernel_rfl
@[simp] theorem tfld_25_12 : tfld Try.prog 25 12 = some (14, 3) := by kernel_rfl
@[simp] theorem tfld_25_13 : tfld Try.prog 25 13 = some (15, 3) := by kernel_rfl
@[simp] theorem tfld_25_14 : tfld Try.prog 25 14 = some (16, 3) := by kernel_rfl
@[simp] theorem tfld_25_15 : tfld Try.prog 25 15 = some (17, 3) := by kernel_rfl
@[simp] theorem tfld_25_16 : tfld Try.prog 25 16 = some (18, 3) := by kernel_rfl
@[simp] theorem tfld_25_17 : tfld Try.prog 25 17 = some (19, 3) := by kernel_rfl
@[simp] theorem tfld_25_18 : tfld Try.prog 25 18 = some (20, 3) := by kernel_rfl
@[simp] theorem tfld_25_19 : tfld Try.prog 25 19 = none := by kernel_rfl
@[simp] theorem tfld_25_20 : tfld Try.prog 25 20 = none := by kernel_rfl
@[simp] theorem tfld_25_21 : tfld Try.prog 25 21 = none := by kernel_rfl
@[simp] theorem tfld_25_22 : tfld Try.prog 25 22 = none := by kernel_rfl
@[simp] theorem tfld_25_23 : tfld Try.prog 25 23 = none := by kernel_rfl
@[simp] theorem tfld_25_24 : tfld Try.prog 25 24 = none := by kernel_rfl
@[simp] theorem tfld_25_25 : tfld Try.prog 25 25 = none := by kernel_rfl
@[simp] theorem tfld_25_26 : tfld Try.prog 25 26 = none := by kernel_rfl
@[simp] theorem tfld_25_27 : tfld Try.prog 25 27 = none := by kernel_rfl
@[simp] theorem tfld_25_28 : tfld Try.prog 25 28 = none := by kernel_rfl
@[simp] theorem tfld_25_29 : tfld Try.prog 25 29 = none := by kernel_rfl
@[simp] theorem tsz_26 : tsz Try.prog 26 = some 21 := by kernel_rfl
@[simp] theorem tagg_26 : tagg Try.prog 26 = some true := by kernel_rfl
@[simp] theorem tzero_26 : tzero Try.prog 26 = some
  (Value.agg
    {
      toList :=
        [Value.slice none 0 0, Value.slice none 0 0, Value.int IntKind.i64 (Int.ofNat 0), Value.int IntKind.i64 (Int.ofNat 0), Value.int IntKind.i64 (Int.ofNat 0), Value.int IntKind.i64 (Int.ofNat 0),
          Value.int IntKind.i64 (Int.ofNat 0), Value.int IntKind.i64 (Int.ofNat 0), Value.int IntKind.i64 (Int.ofNat 0), Value.int IntKind.i64 (Int.ofNat 0), Value.int IntKind.i64 (Int.ofNat 0),
          Value.int IntKind.i64 (Int.ofNat 0), Value.int IntKind.i64 (Int.ofNat 0), Value.int IntKind.i64 (Int.ofNat 0), Value.int IntKind.i64 (Int.ofNat 0), Value.int IntKind.i64 (Int.ofNat 0),
          Value.int IntKind.i64 (Int.ofNat 0), Value.int IntKind.i64 (Int.ofNat 0), Value.int IntKind.i64 (Int.ofNat 0), Value.int IntKind.i64 (Int.ofNat 0), Value.int IntKind.i64 (Int.ofNat 0)] }) := by kernel_rfl
@[simp] theorem tplaces_26 : tplaces Try.prog 26 = some [(0, 1), (1, 1), (2, 1), (3, 1), (4, 1), (5, 1), (6, 1), (7, 2), (9, 2), (11, 1), (12, 1), (13, 1), (14, 1), (15, 1), (16, 1), (17, 1), (18, 1), (19, 1), (20, 1)] := by kernel_rfl
@[simp] theorem telem_26 : telem Try.prog 26 = none := by kernel_rfl
@[simp] theorem tint_26 : tint Try.prog 26 = none := by kernel_rfl
@[simp] theorem tfld_26_0 : tfld Try.prog 26 0 = some (0, 22) := by kernel_rfl
@[simp] theorem tfld_26_1 : tfld Try.prog 26 1 = some (1, 22) := by kernel_rfl
@[simp] theorem tfld_26_2 : tfld Try.prog 26 2 = some (2, 3) := by kernel_rfl
@[simp] theorem tfld_26_3 : tfld Try.prog 26 3 = some (3, 3) := by kernel_rfl
@[simp] theorem tfld_26_4 : tfld Try.prog 26 4 = some (4, 3) := by kernel_rfl
@[simp] theorem tfld_26_5 : tfld Try.prog 26 5 = some (5, 3) := by kernel_rfl
@[simp] theorem tfld_26_6 : tfld Try.prog 26 6 = some (6, 3) := by kernel_rfl
@[simp] theorem tfld_26_7 : tfld Try.prog 26 7 = some (7, 24) := by kernel_rfl
@[simp] theorem tfld_26_8 : tfld Try.prog 26 8 = some (9, 24) := by kernel_rfl
@[simp] theorem tfld_26_9 : tfld Try.prog 26 9 = some (11, 3) := by kernel_rfl
@[simp] theorem tfld_26_10 : tfld Try.prog 26 10 = some (12, 3) := by kernel_rfl
@[simp] theorem tfld_26_11 : tfld Try.prog 26 11 = some (13, 3) := by kernel_rfl
@[simp] theorem tfld_26_12 : tfld Try.prog 26 12 = some (14, 3) := by kernel_rfl
@[simp] theorem tfld_26_13 : tfld Try.prog 26 13 = some (15, 3) := by kernel_rfl
@[simp] theorem tfld_26_14 : tfld Try.prog 26 14 = some (16, 3) := by kernel_rfl
@[simp] theorem tfld_26_15 : tfld Try.prog 26 15 = some (17, 3) := by kernel_rfl
@[simp] theorem tfld_26_16 : tfld Try.prog 26 16 = some (18, 3) := by kernel_rfl
@[simp] theorem tfld_26_17 : tfld Try.prog 26 17 = some (19, 3) := by kernel_rfl
@[simp] theorem tfld_26_18 : tfld Try.prog 26 18 = some (20, 3) := by kernel_rfl
@[simp] theorem tfld_26_19 : tfld Try.prog 26 19 = none := by kernel_rfl
@[simp] theorem tfld_26_20 : tfld Try.prog 26 20 = none := by kernel_rfl
@[simp] theorem tfld_26_21 : tfld Try.prog 26 21 = none := by kernel_rfl
@[simp] theorem tfld_26_22 : tfld Try.prog 26 22 = none := by kernel_rfl
@[simp] theorem tfld_26_23 : tfld Try.prog 26 23 = none := by kernel_rfl
@[simp] theorem tfld_26_24 : tfld Try.prog 26 24 = none := by kernel_rfl
@[simp] theorem tfld_26_25 : tfld Try.prog 26 25 = none := by kernel_rfl
@[simp] theorem tfld_26_26 : tfld Try.prog 26 26 = none := by kernel_rfl
@[simp] theorem tfld_26_27 : tfld Try.prog 26 27 = none := by kernel_rfl
@[simp] theorem tfld_26_28 : tfld Try.prog 26 28 = none := by kernel_rfl
@[simp] theorem tfld_26_29 : tfld Try.prog 26 29 = none := by kernel_rfl
@[simp] theorem tsz_27 : tsz Try.prog 27 = some 1 := by kernel_rfl
@[simp] theorem tagg_27 : tagg Try.prog 27 = some false := by kernel_rfl
@[simp] theorem tzero_27 : tzero Try.prog 27 = some Value.nilFunc := by kernel_rfl
@[simp] theorem tplaces_27 : tplaces Try.prog 27 = none := by kernel_rfl
@[simp] theorem telem_27 : telem Try.prog 27 = none := by kernel_rfl
@[simp] theorem tint_27 : tint Try.prog 27 = none := by kernel_rfl
@[simp] theorem tfld_27_0 : tfld Try.prog 27 0 = none := by kernel_rfl
@[simp] theorem tfld_27_1 : tfld Try.prog 27 1 = none := by kernel_rfl
@[simp] theorem tfld_27_2 : tfld Try.prog 27 2 = none := by kernel_rfl
@[simp] theorem tfld_27_3 : tfld Try.prog 27 3 = none := by kernel_rfl
@[simp] theorem tfld_27_4 : tfld Try.prog 27 4 = none := by kernel_rfl
@[simp] theorem tfld_27_5 : tfld Try.prog 27 5 = none := by kernel_rfl
@[simp] theorem tfld_27_6 : tfld Try.prog 27 6 = none := by kernel_rfl
@[simp] theorem tfld_27_7 : tfld Try.prog 27 7 = none := by kernel_rfl
@[simp] theorem tfld_27_8 : tfld Try.prog 27 8 = none := by kernel_rfl
@[simp] theorem tfld_27_9 : tfld Try.prog 27 9 = none := by kernel_rfl
@[simp] theorem tfld_27_10 : tfld Try.prog 27 10 = none := by kernel_rfl
@[simp] theorem tfld_27_11 : tfld Try.prog 27 11 = none := by kernel_rfl
@[simp] theorem tfld_27_12 : tfld Try.prog 27 12 = none := by kernel_rfl
@[simp] theorem tfld_27_13 : tfld Try.prog 27 13 = none := by kernel_rfl
@[simp] theorem tfld_27_14 : tfld Try.prog 27 14 = none := by kernel_rfl
@[simp] theorem tfld_27_15 : tfld Try.prog 27 15 = none := by kernel_rfl
@[simp] theorem tfld_27_16 : tfld Try.prog 27 16 = none := by kernel_rfl
@[simp] theorem tfld_27_17 : tfld Try.prog 27 17 = none := by kernel_rfl
@[simp] theorem tfld_27_18 : tfld Try.prog 27 18 = none := by kernel_rfl
@[simp] theorem tfld_27_19 : tfld Try.prog 27 19 = none := by kernel_rfl
@[simp] theorem tfld_27_20 : tfld Try.prog 27 20 = none := by kernel_rfl
@[simp] theorem tfld_27_21 : tfld Try.prog 27 21 = none := by kernel_rfl
@[simp] theorem tfld_27_22 : tfld Try.prog 27 22 = none := by kernel_rfl
@[simp] theorem tfld_27_23 : tfld Try.prog 27 23 = none := by kernel_rfl
@[simp] theorem tfld_27_24 : tfld Try.prog 27 24 = none := by kernel_rfl
@[simp] theorem tfld_27_25 : tfld Try.prog 27 25 = none := by kernel_rfl
@[simp] theorem tfld_27_26 : tfld Try.prog 27 26 = none := by kernel_rfl
@[simp] theorem tfld_27_27 : tfld Try.prog 27 27 = none := by kernel_rfl
@[simp] theorem tfld_27_28 : tfld Try.prog 27 28 = none := by kernel_rfl
@[simp] theorem tfld_27_29 : tfld Try.prog 27 29 = none := by kernel_rfl
@[simp] theorem tsz_28 : tsz Try.prog 28 = some 1 := by kernel_rfl
@[simp] theorem tagg_28 : tagg Try.prog 28 = some false := by kernel_rfl
@[simp] theorem tzero_28 : tzero Try.prog 28 = some Value.nilFunc := by kernel_rfl
@[simp] theorem tplaces_28 : tplaces Try.prog 28 = none := by kernel_rfl
@[simp] theorem telem_28 : telem Try.prog 28 = none := by kernel_rfl
@[simp] theorem tint_28 : tint Try.prog 28 = none := by kernel_rfl
@[simp] theorem tfld_28_0 : tfld Try.prog 28 0 = none := by kernel_rfl
@[simp] theorem tfld_28_1 : tfld Try.prog 28 1 = none := by kernel_rfl
@[simp] theorem tfld_28_2 : tfld Try.prog 28 2 = none := by kernel_rfl
@[simp] theorem tfld_28_3 : tfld Try.prog 28 3 = none := by kernel_rfl
@[simp] theorem tfld_28_4 : tfld Try.prog 28 4 = none := by kernel_rfl
@[simp] theorem tfld_28_5 : tfld Try.prog 28 5 = none := by kernel_rfl
@[simp] theorem tfld_28_6 : tfld Try.prog 28 6 = none := by kernel_rfl
@[simp] theorem tfld_28_7 : tfld Try.prog 28 7 = none := by kernel_rfl
@[simp] theorem tfld_28_8 : tfld Try.prog 28 8 = none := by kernel_rfl
@[simp] theorem tfld_28_9 : tfld Try.prog 28 9 = none := by kernel_rfl
@[simp] theorem tfld_28_10 : tfld Try.prog 28 10 = none := by kernel_rfl
@[simp] theorem tfld_28_11 : tfld Try.prog 28 11 = none := by kernel_rfl
@[simp] theorem tfld_28_12 : tfld Try.prog 28 12 = none := by kernel_rfl
@[simp] theorem tfld_28_13 : tfld Try.prog 28 13 = none := by kernel_rfl
@[simp] theorem tfld_28_14 : tfld Try.prog 28 14 = none := by kernel_rfl
@[simp] theorem tfld_28_15 : tfld Try.prog 28 15 = none := by kernel_rfl
@[simp] theorem tfld_28_16 : tfld Try.prog 28 16 = none := by kernel_rfl
@[simp] theorem tfld_28_17 : tfld Try.prog 28 17 = none := by kernel_rfl
@[simp] theorem tfld_28_18 : tfld Try.prog 28 18 = none := by kernel_rfl
@[simp] theorem tfld_28_19 : tfld Try.prog 28 19 = none := by kernel_rfl
@[simp] theorem tfld_28_20 : tfld Try.prog 28 20 = none := by kernel_rfl
@[simp] theorem tfld_28_21 : tfld Try.prog 28 21 = none := by kernel_rfl
@[simp] theorem tfld_28_22 : tfld Try.prog 28 22 = none := by kernel_rfl
@[simp] theorem tfld_28_23 : tfld Try.prog 28 23 = none := by kernel_rfl
@[simp] theorem tfld_28_24 : tfld Try.prog 28 24 = none := by kernel_rfl
@[simp] theorem tfld_28_25 : tfld Try.prog 28 25 = none := by kernel_rfl
@[simp] theorem tfld_28_26 : tfld Try.prog 28 26 = none := by kernel_rfl
@[simp] theorem tfld_28_27 : tfld Try.prog 28 27 = none := by kernel_rfl
@[simp] theorem tfld_28_28 : tfld Try.prog 28 28 = none := by kernel_rfl
@[simp] theorem tfld_28_29 : tfld Try.prog 28 29 = none := by kernel_rfl
@[simp] theorem tsz_29 : tsz Try.prog 29 = some 1 := by kernel_rfl
@[simp] theorem tagg_29 : tagg Try.prog 29 = some false := by kernel_rfl
@[simp] theorem tzero_29 : tzero Try.prog 29 = some (Value.tuple { toList := [Value.int IntKind.i64 (Int.ofNat 0), Value.bool false] }) := by kernel_rfl
@[simp] theorem tplaces_29 : tplaces Try.prog 29 = none := by kernel_rfl
@[simp] theorem telem_29 : telem Try.prog 29 = none := by kernel_rfl
@[simp] theorem tint_29 : tint Try.prog 29 = none := by kernel_rfl
@[simp] theorem tfld_29_0 : tfld Try.prog 29 0 = none := by kernel_rfl
@[simp] theorem tfld_29_1 : tfld Try.prog 29 1 = none := by kernel_rfl
@[simp] theorem tfld_29_2 : tfld Try.prog 29 2 = none := by kernel_rfl
@[simp] theorem tfld_29_3 : tfld Try.prog 29 3 = none := by kernel_rfl
@[simp] theorem tfld_29_4 : tfld Try.prog 29 4 = none := by kernel_rfl
@[simp] theorem tfld_29_5 : tfld Try.prog 29 5 = none := by kernel_rfl
@[simp] theorem tfld_29_6 : tfld Try.prog 29 6 = none := by kernel_rfl
@[simp] theorem tfld_29_7 : tfld Try.prog 29 7 = none := by kernel_rfl
@[simp] theorem tfld_29_8 : tfld Try.prog 29 8 = none := by kernel_rfl
@[simp] theorem tfld_29_9 : tfld Try.prog 29 9 = none := by kernel_rfl
@[simp] theorem tfld_29_10 : tfld Try.prog 29 10 = none := by kernel_rfl
@[simp] theorem tfld_29_11 : tfld Try.prog 29 11 = none := by kernel_rfl
@[simp] theorem tfld_29_12 : tfld Try.prog 29 12 = none := by kernel_rfl
@[simp] theorem tfld_29_13 : tfld Try.prog 29 13 = none := by kernel_rfl
@[simp] theorem tfld_29_14 : tfld Try.prog 29 14 = none := by kernel_rfl
@[simp] theorem tfld_29_15 : tfld Try.prog 29 15 = none := by kernel_rfl
@[simp] theorem tfld_29_16 : tfld Try.prog 29 16 = none := by kernel_rfl
@[simp] theorem tfld_29_17 : tfld Try.prog 29 17 = none := by kernel_rfl
@[simp] theorem tfld_29_18 : tfld Try.prog 29 18 = none := by kernel_rfl
@[simp] theorem tfld_29_19 : tfld Try.prog 29 19 = none := by kernel_rfl
@[simp] theorem tfld_29_20 : tfld Try.prog 29 20 = none := by kernel_rfl
@[simp] theorem tfld_29_21 : tfld Try.prog 29 21 = none := by kernel_rfl
@[simp] theorem tfld_29_22 : tfld Try.prog 29 22 = none := by kernel_rfl
@[simp] theorem tfld_29_23 : tfld Try.prog 29 23 = none := by kernel_rfl
@[simp] theorem tfld_29_24 : tfld Try.prog 29 24 = none := by kernel_rfl
@[simp] theorem tfld_29_25 : tfld Try.prog 29 25 = none := by kernel_rfl
@[simp] theorem tfld_29_26 : tfld Try.prog 29 26 = none := by kernel_rfl
@[simp] theorem tfld_29_27 : tfld Try.prog 29 27 = none := by kernel_rfl
@[simp] theorem tfld_29_28 : tfld Try.prog 29 28 = none := by kernel_rfl
@[simp] theorem tfld_29_29 : tfld Try.prog 29 29 = none := by kernel_rfl
@[simp] theorem tsz_30 : tsz Try.prog 30 = some 1 := by kernel_rfl
@[simp] theorem tagg_30 : tagg Try.prog 30 = some false := by kernel_rfl
@[simp] theorem tzero_30 : tzero Try.prog 30 = some Value.nilFunc := by kernel_rfl
@[simp] theorem tplaces_30 : tplaces Try.prog 30 = none := by kernel_rfl
@[simp] theorem telem_30 : telem Try.prog 30 = none := by kernel_rfl
@[simp] theorem tint_30 : tint Try.prog 30 = none := by kernel_rfl
@[simp] theorem tfld_30_0 : tfld Try.prog 30 0 = none := by kernel_rfl
@[simp] theorem tfld_30_1 : tfld Try.prog 30 1 = none := by kernel_rfl
@[simp] theorem tfld_30_2 : tfld Try.prog 30 2 = none := by kernel_rfl
@[simp] theorem tfld_30_3 : tfld Try.prog 30 3 = none := by kernel_rfl
@[simp] theorem tfld_30_4 : tfld Try.prog 30 4 = none := by kernel_rfl
@[simp] theorem tfld_30_5 : tfld Try.prog 30 5 = none := by kernel_rfl
@[simp] theorem tfld_30_6 : tfld Try.prog 30 6 = none := by kernel_rfl
@[simp] theorem tfld_30_7 : tfld Try.prog 30 7 = none := by kernel_rfl
@[simp] theorem tfld_30_8 : tfld Try.prog 30 8 = none := by kernel_rfl
@[simp] theorem tfld_30_9 : tfld Try.prog 30 9 = none := by kernel_rfl
@[simp] theorem tfld_30_10 : tfld Try.prog 30 10 = none := by kernel_rfl
@[simp] theorem tfld_30_11 : tfld Try.prog 30 11 = none := by kernel_rfl
@[simp] theorem tfld_30_12 : tfld Try.prog 30 12 = none := by kernel_rfl
@[simp] theorem tfld_30_13 : tfld Try.prog 30 13 = none := by kernel_rfl
@[simp] theorem tfld_30_14 : tfld Try.prog 30 14 = none := by kernel_rfl
@[simp] theorem tfld_30_15 : tfld Try.prog 30 15 = none := by kernel_rfl
@[simp] theorem tfld_30_16 : tfld Try.prog 30 16 = none := by kernel_rfl
@[simp] theorem tfld_30_17 : tfld Try.prog 30 17 = none := by kernel_rfl
@[simp] theorem tfld_30_18 : tfld Try.prog 30 18 = none := by kernel_rfl
@[simp] theorem tfld_30_19 : tfld Try.prog 30 19 = none := by kernel_rfl
@[simp] theorem tfld_30_20 : tfld Try.prog 30 20 = none := by kernel_rfl
@[simp] theorem tfld_30_21 : tfld Try.prog 30 21 = none := by kernel_rfl
@[simp] theorem tfld_30_22 : tfld Try.prog 30 22 = none := by kernel_rfl
@[simp] theorem tfld_30_23 : tfld Try.prog 30 23 = none := by kernel_rfl
@[simp] theorem tfld_30_24 : tfld Try.prog 30 24 = none := by kernel_rfl
@[simp] theorem tfld_30_25 : tfld Try.prog 30 25 = none := by kernel_rfl
@[simp] theorem tfld_30_26 : tfld Try.prog 30 26 = none := by kernel_rfl
@[simp] theorem tfld_30_27 : tfld Try.prog 30 27 = none := by kernel_rfl
@[simp] theorem tfld_30_28 : tfld Try.prog 30 28 = none := by kernel_rfl
@[simp] theorem tfld_30_29 : tfld Try.prog 30 29 = none := by kernel_rfl
@[simp] theorem tsz_31 : tsz Try.prog 31 = some 1 := by kernel_rfl
@[simp] theorem tagg_31 : tagg Try.prog 31 = some false := by kernel_rfl
@[simp] theorem tzero_31 : tzero Try.prog 31 = some Value.nilFunc := by kernel_rfl
@[simp] theorem tplaces_31 : tplaces Try.prog 31 = none := by kernel_rfl
@[simp] theorem telem_31 : telem Try.prog 31 = none := by kernel_rfl
@[simp] theorem tint_31 : tint Try.prog 31 = none := by kernel_rfl
@[simp] theorem tfld_31_0 : tfld Try.prog 31 0 = none := by kernel_rfl
@[simp] theorem tfld_31_1 : tfld Try.prog 31 1 = none := by kernel_rfl
@[simp] theorem tfld_31_2 : tfld Try.prog 31 2 = none := by kernel_rfl
@[simp] theorem tfld_31_3 : tfld Try.prog 31 3 = none := by kernel_rfl
@[simp] theorem tfld_31_4 : tfld Try.prog 31 4 = none := by kernel_rfl
@[simp] theorem tfld_31_5 : tfld Try.prog 31 5 = none := by kernel_rfl
@[simp] theorem tfld_31_6 : tfld Try.prog 31 6 = none := by kernel_rfl
@[simp] theorem tfld_31_7 : tfld Try.prog 31 7 = none := by kernel_rfl
@[simp] theorem tfld_31_8 : tfld Try.prog 31 8 = none := by kernel_rfl
@[simp] theorem tfld_31_9 : tfld Try.prog 31 9 = none := by kernel_rfl
@[simp] theorem tfld_31_10 : tfld Try.prog 31 10 = none := by kernel_rfl
@[simp] theorem tfld_31_11 : tfld Try.prog 31 11 = none := by kernel_rfl
@[simp] theorem tfld_31_12 : tfld Try.prog 31 12 = none := by kernel_rfl
@[simp] theorem tfld_31_13 : tfld Try.prog 31 13 = none := by kernel_rfl
@[simp] theorem tfld_31_14 : tfld Try.prog 31 14 = none := by kernel_rfl
@[simp] theorem tfld_31_15 : tfld Try.prog 31 15 = none := by kernel_rfl
@[simp] theorem tfld_31_16 : tfld Try.prog 31 16 = none := by kernel_rfl
@[simp] theorem tfld_31_17 : tfld Try.prog 31 17 = none := by kernel_rfl
@[simp] theorem tfld_31_18 : tfld Try.prog 31 18 = none := by kernel_rfl
@[simp] theorem tfld_31_19 : tfld Try.prog 31 19 = none := by kernel_rfl
@[simp] theorem tfld_31_20 : tfld Try.prog 31 20 = none := by kernel_rfl
@[simp] theorem tfld_31_21 : tfld Try.prog 31 21 = none := by kernel_rfl
@[simp] theorem tfld_31_22 : tfld Try.prog 31 22 = none := by kernel_rfl
@[simp] theorem tfld_31_23 : tfld Try.prog 31 23 = none := by kernel_rfl
@[simp] theorem tfld_31_24 : tfld Try.prog 31 24 = none := by kernel_rfl
@[simp] theorem tfld_31_25 : tfld Try.prog 31 25 = none := by kernel_rfl
@[simp] theorem tfld_31_26 : tfld Try.prog 31 26 = none := by kernel_rfl
@[simp] theorem tfld_31_27 : tfld Try.prog 31 27 = none := by kernel_rfl
@[simp] theorem tfld_31_28 : tfld Try.prog 31 28 = none := by kernel_rfl
@[simp] theorem tfld_31_29 : tfld Try.prog 31 29 = none := by kernel_rfl
@[simp] theorem tsz_32 : tsz Try.prog 32 = some 25 := by kernel_rfl
@[simp] theorem tagg_32 : tagg Try.prog 32 = some true := by kernel_rfl
@[simp] theorem tzero_32 : tzero Try.prog 32 = some
  (Value.agg
    {
      toList :=
        [Value.bool false, Value.bool false, Value.int IntKind.i64 (Int.ofNat 0), Value.bool false, Value.bool false, Value.bool false, Value.bool false, Value.bool false, Value.bool false,
          Value.bool false, Value.bool false, Value.bool false, Value.bool false, Value.bool false, Value.bool false, Value.bool false, Value.bool false, Value.bool false, Value.bool false,
          Value.bool false, Value.bool false, Value.bool false, Value.bool false, Value.int IntKind.i64 (Int.ofNat 0), Value.int IntKind.i64 (Int.ofNat 0)] }) := by kernel_rfl
@[simp] theorem tplaces_32 : tplaces Try.prog 32 = some
  [(0, 1), (1, 1), (2, 1), (3, 1), (4, 1), (5, 1), (6, 1), (7, 1), (8, 1), (9, 1), (10, 1), (11, 1), (12, 1), (13, 1), (14, 1), (15, 1), (16, 1), (17, 1), (18, 1), (19, 1), (20, 1), (21, 1), (22, 1),
    (23, 1), (24, 1)] := by kernel_rfl
@[simp] theorem telem_32 : telem Try.prog 32 = none := by kernel_rfl
@[simp] theorem tint_32 : tint Try.prog 32 = none := by kernel_rfl
@[simp] theorem tfld_32_0 : tfld Try.prog 32 0 = some (0, 4) := by kernel_rfl
@[simp] theorem tfld_32_1 : tfld Try.prog 32 1 = some (1, 4) := by kernel_rfl
@[simp] theorem tfld_32_2 : tfld Try.prog 32 2 = some (2, 3) := by kernel_rfl
@[simp] theorem tfld_32_3 : tfld Try.prog 32 3 = some (3, 4) := by kernel_rfl
@[simp] theorem tfld_32_4 : tfld Try.prog 32 4 = some (4, 4) := by kernel_rfl
@[simp] theorem tfld_32_5 : tfld Try.prog 32 5 = some (5, 4) := by kernel_rfl
@[simp] theorem tfld_32_6 : tfld Try.prog 32 6 = some (6, 4) := by kernel_rfl
@[simp] theorem tfld_32_7 : tfld Try.prog 32 7 = some (7, 4) := by kernel_rfl
@[simp] theorem tfld_32_8 : tfld Try.prog 32 8 = some (8, 4) := by kernel_rfl
@[simp] theorem tfld_32_9 : tfld Try.prog 32 9 = some (9, 4) := by kernel_rfl
@[simp] theorem tfld_32_10 : tfld Try.prog 32 10 = some (10, 4) := by kernel_rfl
@[simp] theorem tfld_32_11 : tfld Try.prog 32 11 = some (11, 4) := by kernel_rfl
@[simp] theorem tfld_32_12 : tfld Try.prog 32 12 = some (12, 4) := by kernel_rfl
@[simp] theorem tfld_32_13 : tfld Try.prog 32 13 = some (13, 4) := by kernel_rfl
@[simp] theorem tfld_32_14 : tfld Try.prog 32 14 = some (14, 4) := by kernel_rfl
@[simp] theorem tfld_32_15 : tfld Try.prog 32 15 = some (15, 4) := by kernel_rfl
@[simp] theorem tfld_32_16 : tfld Try.prog 32 16 = some (16, 4) := by kernel_rfl
@[simp] theorem tfld_32_17 : tfld Try.prog 32 17 = some (17, 4) := by kernel_rfl
@[simp] theorem tfld_32_18 : tfld Try.prog 32 18 = some (18, 4) := by kernel_rfl
@[simp] theorem tfld_32_19 : tfld Try.prog 32 19 = some (19, 4) := by kernel_rfl
@[simp] theorem tfld_32_20 : tfld Try.prog 32 20 = some (20, 4) := by kernel_rfl
@[simp] theorem tfld_32_21 : tfld Try.prog 32 21 = some (21, 4) := by kernel_rfl
@[simp] theorem tfld_32_22 : tfld Try.prog 32 22 = some (22, 4) := by kernel_rfl
@[simp] theorem tfld_32_23 : tfld Try.prog 32 23 = some (23, 3) := by kernel_rfl
@[simp] theorem tfld_32_24 : tfld Try.prog 32 24 = some (24, 3) := by kernel_rfl
@[simp] theorem tfld_32_25 : tfld Try.prog 32 25 = none := by kernel_rfl
@[simp] theorem tfld_32_26 : tfld Try.prog 32 26 = none := by kernel_rfl
@[simp] theorem tfld_32_27 : tfld Try.prog 32 27 = none := by kernel_rfl
@[simp] theorem tfld_32_28 : tfld Try.prog 32 28 = none := by kernel_rfl
@[simp] theorem tfld_32_29 : tfld Try.prog 32 29 = none := by kernel_rfl
@[simp] theorem tsz_33 : tsz Try.prog 33 = some 25 := by kernel_rfl
@[simp] theorem tagg_33 : tagg Try.prog 33 = some true := by kernel_rfl
@[simp] theorem tzero_33 : tzero Try.prog 33 = some
  (Value.agg
    {
      toList :=
        [Value.bool false, Value.bool false, Value.int IntKind.i64 (Int.ofNat 0), Value.bool false, Value.bool false, Value.bool false, Value.bool false, Value.bool false, Value.bool false,
          Value.bool false, Value.bool false, Value.bool false, Value.bool false, Value.bool false, Value.bool false, Value.bool false, Value.bool false, Value.bool false, Value.bool false,
          Value.bool false, Value.bool false, Value.bool false, Value.bool false, Value.int IntKind.i64 (Int.ofNat 0), Value.int IntKind.i64 (Int.ofNat 0)] }) := by kernel_rfl
@[simp] theorem tplaces_33 : tplaces Try.prog 33 = some
  [(0, 1), (1, 1), (2, 1), (3, 1), (4, 1), (5, 1), (6, 1), (7, 1), (8, 1), (9, 1), (10, 1), (11, 1), (12, 1), (13, 1), (14, 1), (15, 1), (16, 1), (17, 1), (18, 1), (19, 1), (20, 1), (21, 1), (22, 1),
    (23, 1), (24, 1)] := by kernel_rfl
@[simp] theorem telem_33 : telem Try.prog 33 = none := by kernel_rfl
@[simp] theorem tint_33 : tint Try.prog 33 = none := by kernel_rfl
@[simp] theorem tfld_33_0 : tfld Try.prog 33 0 = some (0, 4) := by kernel_rfl
@[simp] theorem tfld_33_1 : tfld Try.prog 33 1 = some (1, 4) := by kernel_rfl
@[simp] theorem tfld_33_2 : tfld Try.prog 33 2 = some (2, 3) := by kernel_rfl
@[simp] theorem tfld_33_3 : tfld Try.prog 33 3 = some (3, 4) := by kernel_rfl
@[simp] theorem tfld_33_4 : tfld Try.prog 33 4 = some (4, 4) := by kernel_rfl
@[simp] theorem tfld_33_5 : tfld Try.prog 33 5 = some (5, 4) := by kernel_rfl
@[simp] theorem tfld_33_6 : tfld Try.prog 33 6 = some (6, 4) := by kernel_rfl
@[simp] theorem tfld_33_7 : tfld Try.prog 33 7 = some (7, 4) := by kernel_rfl
@[simp] theorem tfld_33_8 : tfld Try.prog 33 8 = some (8, 4) := by kernel_rfl
@[simp] theorem tfld_33_9 : tfld Try.prog 33 9 = some (9, 4) := by kernel_rfl
@[simp] theorem tfld_33_10 : tfld Try.prog 33 10 = some (10, 4) := by kernel_rfl
@[simp] theorem tfld_33_11 : tfld Try.prog 33 11 = some (11, 4) := by kernel_rfl
@[simp] theorem tfld_33_12 : tfld Try.prog 33 12 = some (12, 4) := by kernel_rfl
@[simp] theorem tfld_33_13 : tfld Try.prog 33 13 = some (13, 4) := by kernel_rfl
@[simp] theorem tfld_33_14 : tfld Try.prog 33 14 = some (14, 4) := by kernel_rfl
@[simp] theorem tfld_33_15 : tfld Try.prog 33 15 = some (15, 4) := by kernel_rfl
@[simp] theorem tfld_33_16 : tfld Try.prog 33 16 = some (16, 4) := by kernel_rfl
@[simp] theorem tfld_33_17 : tfld Try.prog 33 17 = some (17, 4) := by kernel_rfl
@[simp] theorem tfld_33_18 : tfld Try.prog 33 18 = some (18, 4) := by kernel_rfl
@[simp] theorem tfld_33_19 : tfld Try.prog 33 19 = some (19, 4) := by kernel_rfl
@[simp] theorem tfld_33_20 : tfld Try.prog 33 20 = some (20, 4) := by kernel_rfl
@[simp] theorem tfld_33_21 : tfld Try.prog 33 21 = some (21, 4) := by kernel_rfl
@[simp] theorem tfld_33_22 : tfld Try.prog 33 22 = some (22, 4) := by kernel_rfl
@[simp] theorem tfld_33_23 : tfld Try.prog 33 23 = some (23, 3) := by kernel_rfl
@[simp] theorem tfld_33_24 : tfld Try.prog 33 24 = some (24, 3) := by kernel_rfl
@[simp] theorem tfld_33_25 : tfld Try.prog 33 25 = none := by kernel_rfl
@[simp] theorem tfld_33_26 : tfld Try.prog 33 26 = none := by kernel_rfl
@[simp] theorem tfld_33_27 : tfld Try.prog 33 27 = none := by kernel_rfl
@[simp] theorem tfld_33_28 : tfld Try.prog 33 28 = none := by kernel_rfl
@[simp] theorem tfld_33_29 : tfld Try.prog 33 29 = none := by kernel_rfl
@[simp] theorem tsz_34 : tsz Try.prog 34 = some 1 := by kernel_rfl
@[simp] theorem tagg_34 : tagg Try.prog 34 = some false := by kernel_rfl
@[simp] theorem tzero_34 : tzero Try.prog 34 = some Value.nilFunc := by kernel_rfl
@[simp] theorem tplaces_34 : tplaces Try.prog 34 = none := by kernel_rfl
@[simp] theorem telem_34 : telem Try.prog 34 = none := by kernel_rfl
@[simp] theorem tint_34 : tint Try.prog 34 = none := by kernel_rfl
@[simp] theorem tfld_34_0 : tfld Try.prog 34 0 = none := by kernel_rfl
@[simp] theorem tfld_34_1 : tfld Try.prog 34 1 = none := by kernel_rfl
@[simp] theorem tfld_34_2 : tfld Try.prog 34 2 = none := by kernel_rfl
@[simp] theorem tfld_34_3 : tfld Try.prog 34 3 = none := by kernel_rfl
@[simp] theorem tfld_34_4 : tfld Try.prog 34 4 = none := by kernel_rfl
@[simp] theorem tfld_34_5 : tfld Try.prog 34 5 = none := by kernel_rfl
@[simp] theorem tfld_34_6 : tfld Try.prog 34 6 = none := by kernel_rfl
@[simp] theorem tfld_34_7 : tfld Try.prog 34 7 = none := by kernel_rfl
@[simp] theorem tfld_34_8 : tfld Try.prog 34 8 = none := by kernel_rfl
@[simp] theorem tfld_34_9 : tfld Try.prog 34 9 = none := by kernel_rfl
@[simp] theorem tfld_34_10 : tfld Try.prog 34 10 = none := by kernel_rfl
@[simp] theorem tfld_34_11 : tfld Try.prog 34 11 = none := by kernel_rfl
@[simp] theorem tfld_34_12 : tfld Try.prog 34 12 = none := by kernel_rfl
@[simp] theorem tfld_34_13 : tfld Try.prog 34 13 = none := by kernel_rfl
@[simp] theorem tfld_34_14 : tfld Try.prog 34 14 = none := by kernel_rfl
@[simp] theorem tfld_34_15 : tfld Try.prog 34 15 = none := by kernel_rfl
@[simp] theorem tfld_34_16 : tfld Try.prog 34 16 = none := by kernel_rfl
@[simp] theorem tfld_34_17 : tfld Try.prog 34 17 = none := by kernel_rfl
@[simp] theorem tfld_34_18 : tfld Try.prog 34 18 = none := by kernel_rfl
@[simp] theorem tfld_34_19 : tfld Try.prog 34 19 = none := by kernel_rfl
@[simp] theorem tfld_34_20 : tfld Try.prog 34 20 = none := by kernel_rfl
@[simp] theorem tfld_34_21 : tfld Try.prog 34 21 = none := by kernel_rfl
@[simp] theorem tfld_34_22 : tfld Try.prog 34 22 = none := by kernel_rfl
@[simp] theorem tfld_34_23 : tfld Try.prog 34 23 = none := by kernel_rfl
@[simp] theorem tfld_34_24 : tfld Try.prog 34 24 = none := by kernel_rfl
@[simp] theorem tfld_34_25 : tfld Try.prog 34 25 = none := by kernel_rfl
@[simp] theorem tfld_34_26 : tfld Try.prog 34 26 = none := by kernel_rfl
@[simp] theorem tfld_34_27 : tfld Try.prog 34 27 = none := by kernel_rfl
@[simp] theorem tfld_34_28 : tfld Try.prog 34 28 = none := by kernel_rfl
@[simp] theorem tfld_34_29 : tfld Try.prog 34 29 = none := by kernel_rfl
@[simp] theorem tsz_35 : tsz Try.prog 35 = some 1 := by kernel_rfl
@[simp] theorem tagg_35 : tagg Try.prog 35 = some false := by kernel_rfl
@[simp] theorem tzero_35 : tzero Try.prog 35 = some Value.nilFunc := by kernel_rfl
@[simp] theorem tplaces_35 : tplaces Try.prog 35 = none := by kernel_rfl
@[simp] theorem telem_35 : telem Try.prog 35 = none := by kernel_rfl
@[simp] theorem tint_35 : tint Try.prog 35 = none := by kernel_rfl
@[simp] theorem tfld_35_0 : tfld Try.prog 35 0 = none := by kernel_rfl
@[simp] theorem tfld_35_1 : tfld Try.prog 35 1 = none := by kernel_rfl
@[simp] theorem tfld_35_2 : tfld Try.prog 35 2 = none := by kernel_rfl
@[simp] theorem tfld_35_3 : tfld Try.prog 35 3 = none := by kernel_rfl
@[simp] theorem tfld_35_4 : tfld Try.prog 35 4 = none := by kernel_rfl
@[simp] theorem tfld_35_5 : tfld Try.prog 35 5 = none := by kernel_rfl
@[simp] theorem tfld_35_6 : tfld Try.prog 35 6 = none := by kernel_rfl
@[simp] theorem tfld_35_7 : tfld Try.prog 35 7 = none := by kernel_rfl
@[simp] theorem tfld_35_8 : tfld Try.prog 35 8 = none := by kernel_rfl
@[simp] theorem tfld_35_9 : tfld Try.prog 35 9 = none := by kernel_rfl
@[simp] theorem tfld_35_10 : tfld Try.prog 35 10 = none := by kernel_rfl
@[simp] theorem tfld_35_11 : tfld Try.prog 35 11 = none := by kernel_rfl
@[simp] theorem tfld_35_12 : tfld Try.prog 35 12 = none := by kernel_rfl
@[simp] theorem tfld_35_13 : tfld Try.prog 35 13 = none := by kernel_rfl
@[simp] theorem tfld_35_14 : tfld Try.prog 35 14 = none := by kernel_rfl
@[simp] theorem tfld_35_15 : tfld Try.prog 35 15 = none := by kernel_rfl
@[simp] theorem tfld_35_16 : tfld Try.prog 35 16 = none := by kernel_rfl
@[simp] theorem tfld_35_17 : tfld Try.prog 35 17 = none := by kernel_rfl
@[simp] theorem tfld_35_18 : tfld Try.prog 35 18 = none := by kernel_rfl
@[simp] theorem tfld_35_19 : tfld Try.prog 35 19 = none := by kernel_rfl
@[simp] theorem tfld_35_20 : tfld Try.prog 35 20 = none := by kernel_rfl
@[simp] theorem tfld_35_21 : tfld Try.prog 35 21 = none := by kernel_rfl
@[simp] theorem tfld_35_22 : tfld Try.prog 35 22 = none := by kernel_rfl
@[simp] theorem tfld_35_23 : tfld Try.prog 35 23 = none := by kernel_rfl
@[simp] theorem tfld_35_24 : tfld Try.prog 35 24 = none := by kernel_rfl
@[simp] theorem tfld_35_25 : tfld Try.prog 35 25 = none := by kernel_rfl
@[simp] theorem tfld_35_26 : tfld Try.prog 35 26 = none := by kernel_rfl
@[simp] theorem tfld_35_27 : tfld Try.prog 35 27 = none := by kernel_rfl
@[simp] theorem tfld_35_28 : tfld Try.prog 35 28 = none := by kernel_rfl
@[simp] theorem tfld_35_29 : tfld Try.prog 35 29 = none := by kernel_rfl
@[simp] theorem tsz_36 : tsz Try.prog 36 = some 1 := by kernel_rfl
@[simp] theorem tagg_36 : tagg Try.prog 36 = some false := by kernel_rfl
@[simp] theorem tzero_36 : tzero Try.prog 36 = some Value.nilFunc := by kernel_rfl
@[simp] theorem tplaces_36 : tplaces Try.prog 36 = none := by kernel_rfl
@[simp] theorem telem_36 : telem Try.prog 36 = none := by kernel_rfl
@[simp] theorem tint_36 : tint Try.prog 36 = none := by kernel_rfl
@[simp] theorem tfld_36_0 : tfld Try.prog 36 0 = none := by kernel_rfl
@[simp] theorem tfld_36_1 : tfld Try.prog 36 1 = none := by kernel_rfl
@[simp] theorem tfld_36_2 : tfld Try.prog 36 2 = none := by kernel_rfl
@[simp] theorem tfld_36_3 : tfld Try.prog 36 3 = none := by kernel_rfl
@[simp] theorem tfld_36_4 : tfld Try.prog 36 4 = none := by kernel_rfl
@[simp] theorem tfld_36_5 : tfld Try.prog 36 5 = none := by kernel_rfl
@[simp] theorem tfld_36_6 : tfld Try.prog 36 6 = none := by kernel_rfl
@[simp] theorem tfld_36_7 : tfld Try.prog 36 7 = none := by kernel_rfl
@[simp] theorem tfld_36_8 : tfld Try.prog 36 8 = none := by kernel_rfl
@[simp] theorem tfld_36_9 : tfld Try.prog 36 9 = none := by kernel_rfl
@[simp] theorem tfld_36_10 : tfld Try.prog 36 10 = none := by kernel_rfl
@[simp] theorem tfld_36_11 : tfld Try.prog 36 11 = none := by kernel_rfl
@[simp] theorem tfld_36_12 : tfld Try.prog 36 12 = none := by kernel_rfl
@[simp] theorem tfld_36_13 : tfld Try.prog 36 13 = none := by kernel_rfl
@[simp] theorem tfld_36_14 : tfld Try.prog 36 14 = none := by kernel_rfl
@[simp] theorem tfld_36_15 : tfld Try.prog 36 15 = none := by kernel_rfl
@[simp] theorem tfld_36_16 : tfld Try.prog 36 16 = none := by kernel_rfl
@[simp] theorem tfld_36_17 : tfld Try.prog 36 17 = none := by kernel_rfl
@[simp] theorem tfld_36_18 : tfld Try.prog 36 18 = none := by kernel_rfl
@[simp] theorem tfld_36_19 : tfld Try.prog 36 19 = none := by kernel_rfl
@[simp] theorem tfld_36_20 : tfld Try.prog 36 20 = none := by kernel_rfl
@[simp] theorem tfld_36_21 : tfld Try.prog 36 21 = none := by kernel_rfl
@[simp] theorem tfld_36_22 : tfld Try.prog 36 22 = none := by kernel_rfl
@[simp] theorem tfld_36_23 : tfld Try.prog 36 23 = none := by kernel_rfl
@[simp] theorem tfld_36_24 : tfld Try.prog 36 24 = none := by kernel_rfl
@[simp] theorem tfld_36_25 : tfld Try.prog 36 25 = none := by kernel_rfl
@[simp] theorem tfld_36_26 : tfld Try.prog 36 26 = none := by kernel_rfl
@[simp] theorem tfld_36_27 : tfld Try.prog 36 27 = none := by kernel_rfl
@[simp] theorem tfld_36_28 : tfld Try.prog 36 28 = none := by kernel_rfl
@[simp] theorem tfld_36_29 : tfld Try.prog 36 29 = none := by kernel_rfl
@[simp] theorem tsz_37 : tsz Try.prog 37 = some 1 := by kernel_rfl
@[simp] theorem tagg_37 : tagg Try.prog 37 = some false := by kernel_rfl
@[simp] theorem tzero_37 : tzero Try.prog 37 = some Value.nilFunc := by kernel_rfl
@[simp] theorem tplaces_37 : tplaces Try.prog 37 = none := by kernel_rfl
@[simp] theorem telem_37 : telem Try.prog 37 = none := by kernel_rfl
@[simp] theorem tint_37 : tint Try.prog 37 = none := by kernel_rfl
@[simp] theorem tfld_37_0 : tfld Try.prog 37 0 = none := by kernel_rfl
@[simp] theorem tfld_37_1 : tfld Try.prog 37 1 = none := by kernel_rfl
@[simp] theorem tfld_37_2 : tfld Try.prog 37 2 = none := by kernel_rfl
@[simp] theorem tfld_37_3 : tfld Try.prog 37 3 = none := by kernel_rfl
@[simp] theorem tfld_37_4 : tfld Try.prog 37 4 = none := by kernel_rfl
@[simp] theorem tfld_37_5 : tfld Try.prog 37 5 = none := by kernel_rfl
@[simp] theorem tfld_37_6 : tfld Try.prog 37 6 = none := by kernel_rfl
@[simp] theorem tfld_37_7 : tfld Try.prog 37 7 = none := by kernel_rfl
@[simp] theorem tfld_37_8 : tfld Try.prog 37 8 = none := by kernel_rfl
@[simp] theorem tfld_37_9 : tfld Try.prog 37 9 = none := by kernel_rfl
@[simp] theorem tfld_37_10 : tfld Try.prog 37 10 = none := by kernel_rfl
@[simp] theorem tfld_37_11 : tfld Try.prog 37 11 = none := by kernel_rfl
@[simp] theorem tfld_37_12 : tfld Try.prog 37 12 = none := by kernel_rfl
@[simp] theorem tfld_37_13 : tfld Try.prog 37 13 = none := by kernel_rfl
@[simp] theorem tfld_37_14 : tfld Try.prog 37 14 = none := by kernel_rfl
@[simp] theorem tfld_37_15 : tfld Try.prog 37 15 = none := by kernel_rfl
@[simp] theorem tfld_37_16 : tfld Try.prog 37 16 = none := by kernel_rfl
@[simp] theorem tfld_37_17 : tfld Try.prog 37 17 = none := by kernel_rfl
@[simp] theorem tfld_37_18 : tfld Try.prog 37 18 = none := by kernel_rfl
@[simp] theorem tfld_37_19 : tfld Try.prog 37 19 = none := by kernel_rfl
@[simp] theorem tfld_37_20 : tfld Try.prog 37 20 = none := by kernel_rfl
@[simp] theorem tfld_37_21 : tfld Try.prog 37 21 = none := by kernel_rfl
@[simp] theorem tfld_37_22 : tfld Try.prog 37 22 = none := by kernel_rfl
@[simp] theorem tfld_37_23 : tfld Try.prog 37 23 = none := by kernel_rfl
@[simp] theorem tfld_37_24 : tfld Try.prog 37 24 = none := by kernel_rfl
@[simp] theorem tfld_37_25 : tfld Try.prog 37 25 = none := by kernel_rfl
@[simp] theorem tfld_37_26 : tfld Try.prog 37 26 = none := by kernel_rfl
@[simp] theorem tfld_37_27 : tfld Try.prog 37 27 = none := by kernel_rfl
@[simp] theorem tfld_37_28 : tfld Try.prog 37 28 = none := by kernel_rfl
@[simp] theorem tfld_37_29 : tfld Try.prog 37 29 = none := by kernel_rfl
@[simp] theorem tsz_38 : tsz Try.prog 38 = some 1 := by kernel_rfl
@[simp] theorem tagg_38 : tagg Try.prog 38 = some false := by kernel_rfl
@[simp] theorem tzero_38 : tzero Try.prog 38 = some Value.nilFunc := by kernel_rfl
@[simp] theorem tplaces_38 : tplaces Try.prog 38 = none := by kernel_rfl
@[simp] theorem telem_38 : telem Try.prog 38 = none := by kernel_rfl
@[simp] theorem tint_38 : tint Try.prog 38 = none := by kernel_rfl
@[simp] theorem tfld_38_0 : tfld Try.prog 38 0 = none := by kernel_rfl
@[simp] theorem tfld_38_1 : tfld Try.prog 38 1 = none := by kernel_rfl
@[simp] theorem tfld_38_2 : tfld Try.prog 38 2 = none := by kernel_rfl
@[simp] theorem tfld_38_3 : tfld Try.prog 38 3 = none := by kernel_rfl
@[simp] theorem tfld_38_4 : tfld Try.prog 38 4 = none := by kernel_rfl
@[simp] theorem tfld_38_5 : tfld Try.prog 38 5 = none := by kernel_rfl
@[simp] theorem tfld_38_6 : tfld Try.prog 38 6 = none := by kernel_rfl
@[simp] theorem tfld_38_7 : tfld Try.prog 38 7 = none := by kernel_rfl
@[simp] theorem tfld_38_8 : tfld Try.prog 38 8 = none := by kernel_rfl
@[simp] theorem tfld_38_9 : tfld Try.prog 38 9 = none := by kernel_rfl
@[simp] theorem tfld_38_10 : tfld Try.prog 38 10 = none := by kernel_rfl
@[simp] theorem tfld_38_11 : tfld Try.prog 38 11 = none := by kernel_rfl
@[simp] theorem tfld_38_12 : tfld Try.prog 38 12 = none := by kernel_rfl
@[simp] theorem tfld_38_13 : tfld Try.prog 38 13 = none := by kernel_rfl
@[simp] theorem tfld_38_14 : tfld Try.prog 38 14 = none := by kernel_rfl
@[simp] theorem tfld_38_15 : tfld Try.prog 38 15 = none := by kernel_rfl
@[simp] theorem tfld_38_16 : tfld Try.prog 38 16 = none := by kernel_rfl
@[simp] theorem tfld_38_17 : tfld Try.prog 38 17 = none := by kernel_rfl
@[simp] theorem tfld_38_18 : tfld Try.prog 38 18 = none := by kernel_rfl
@[simp] theorem tfld_38_19 : tfld Try.prog 38 19 = none := by kernel_rfl
@[simp] theorem tfld_38_20 : tfld Try.prog 38 20 = none := by kernel_rfl
@[simp] theorem tfld_38_21 : tfld Try.prog 38 21 = none := by kernel_rfl
@[simp] theorem tfld_38_22 : tfld Try.prog 38 22 = none := by kernel_rfl
@[simp] theorem tfld_38_23 : tfld Try.prog 38 23 = none := by kernel_rfl
@[simp] theorem tfld_38_24 : tfld Try.prog 38 24 = none := by kernel_rfl
@[simp] theorem tfld_38_25 : tfld Try.prog 38 25 = none := by kernel_rfl
@[simp] theorem tfld_38_26 : tfld Try.prog 38 26 = none := by kernel_rfl
@[simp] theorem tfld_38_27 : tfld Try.prog 38 27 = none := by kernel_rfl
@[simp] theorem tfld_38_28 : tfld Try.prog 38 28 = none := by kernel_rfl
@[simp] theorem tfld_38_29 : tfld Try.prog 38 29 = none := by kernel_rfl
@[simp] theorem tsz_39 : tsz Try.prog 39 = some 5 := by kernel_rfl
@[simp] theorem tagg_39 : tagg Try.prog 39 = some true := by kernel_rfl
@[simp] theorem tzero_39 : tzero Try.prog 39 = some
  (Value.agg
    { toList := [Value.int IntKind.u8 (Int.ofNat 0), Value.int IntKind.u8 (Int.ofNat 0), Value.int IntKind.u8 (Int.ofNat 0), Value.int IntKind.u8 (Int.ofNat 0), Value.int IntKind.u8 (Int.ofNat 0)] }) := by kernel_rfl
@[simp] theorem tplaces_39 : tplaces Try.prog 39 = none := by kernel_rfl
@[simp] theorem telem_39 : telem Try.prog 39 = some (some 5, 5, 1) := by kernel_rfl
@[simp] theorem tint_39 : tint Try.prog 39 = none := by kernel_rfl
@[simp] theorem tfld_39_0 : tfld Try.prog 39 0 = none := by kernel_rfl
@[simp] theorem tfld_39_1 : tfld Try.prog 39 1 = none := by kernel_rfl
@[simp] theorem tfld_39_2 : tfld Try.prog 39 2 = none := by kernel_rfl
@[simp] theorem tfld_39_3 : tfld Try.prog 39 3 = none := by kernel_rfl
@[simp] theorem tfld_39_4 : tfld Try.prog 39 4 = none := by kernel_rfl
@[simp] theorem tfld_39_5 : tfld Try.prog 39 5 = none := by kernel_rfl
@[simp] theorem tfld_39_6 : tfld Try.prog 39 6 = none := by kernel_rfl
@[simp] theorem tfld_39_7 : tfld Try.prog 39 7 = none := by kernel_rfl
@[simp] theorem tfld_39_8 : tfld Try.prog 39 8 = none := by kernel_rfl
@[simp] theorem tfld_39_9 : tfld Try.prog 39 9 = none := by kernel_rfl
@[simp] theorem tfld_39_10 : tfld Try.prog 39 10 = none := by kernel_rfl
@[simp] theorem tfld_39_11 : tfld Try.prog 39 11 = none := by kernel_rfl
@[simp] theorem tfld_39_12 : tfld Try.prog 39 12 = none := by kernel_rfl
@[simp] theorem tfld_39_13 : tfld Try.prog 39 13 = none := by kernel_rfl
@[simp] theorem tfld_39_14 : tfld Try.prog 39 14 = none := by kernel_rfl
@[simp] theorem tfld_39_15 : tfld Try.prog 39 15 = none := by kernel_rfl
@[simp] theorem tfld_39_16 : tfld Try.prog 39 16 = none := by kernel_rfl
@[simp] theorem tfld_39_17 : tfld Try.prog 39 17 = none := by kernel_rfl
@[simp] theorem tfld_39_18 : tfld Try.prog 39 18 = none := by kernel_rfl
@[simp] theorem tfld_39_19 : tfld Try.prog 39 19 = none := by kernel_rfl
@[simp] theorem tfld_39_20 : tfld Try.prog 39 20 = none := by kernel_rfl
@[simp] theorem tfld_39_21 : tfld Try.prog 39 21 = none := by kernel_rfl
@[simp] theorem tfld_39_22 : tfld Try.prog 39 22 = none := by kernel_rfl
@[simp] theorem tfld_39_23 : tfld Try.prog 39 23 = none := by kernel_rfl
@[simp] theorem tfld_39_24 : tfld Try.prog 39 24 = none := by kernel_rfl
@[simp] theorem tfld_39_25 : tfld Try.prog 39 25 = none := by kernel_rfl
@[simp] theorem tfld_39_26 : tfld Try.prog 39 26 = none := by kernel_rfl
@[simp] theorem tfld_39_27 : tfld Try.prog 39 27 = none := by kernel_rfl
@[simp] theorem tfld_39_28 : tfld Try.prog 39 28 = none := by kernel_rfl
@[simp] theorem tfld_39_29 : tfld Try.prog 39 29 = none := by kernel_rfl
@[simp] theorem tsz_40 : tsz Try.prog 40 = some 1 := by kernel_rfl
@[simp] theorem tagg_40 : tagg Try.prog 40 = some false := by kernel_rfl
@[simp] theorem tzero_40 : tzero Try.prog 40 = some (Value.int IntKind.u16 (Int.ofNat 0)) := by kernel_rfl
@[simp] theorem tplaces_40 : tplaces Try.prog 40 = none := by kernel_rfl
@[simp] theorem telem_40 : telem Try.prog 40 = none := by kernel_rfl
@[simp] theorem tint_40 : tint Try.prog 40 = some IntKind.u16 := by kernel_rfl
@[simp] theorem tfld_40_0 : tfld Try.prog 40 0 = none := by kernel_rfl
@[simp] theorem tfld_40_1 : tfld Try.prog 40 1 = none := by kernel_rfl
@[simp] theorem tfld_40_2 : tfld Try.prog 40 2 = none := by kernel_rfl
@[simp] theorem tfld_40_3 : tfld Try.prog 40 3 = none := by kernel_rfl
@[simp] theorem tfld_40_4 : tfld Try.prog 40 4 = none := by kernel_rfl
@[simp] theorem tfld_40_5 : tfld Try.prog 40 5 = none := by kernel_rfl
@[simp] theorem tfld_40_6 : tfld Try.prog 40 6 = none := by kernel_rfl
@[simp] theorem tfld_40_7 : tfld Try.prog 40 7 = none := by kernel_rfl
@[simp] theorem tfld_40_8 : tfld Try.prog 40 8 = none := by kernel_rfl
@[simp] theorem tfld_40_9 : tfld Try.prog 40 9 = none := by kernel_rfl
@[simp] theorem tfld_40_10 : tfld Try.prog 40 10 = none := by kernel_rfl
@[simp] theorem tfld_40_11 : tfld Try.prog 40 11 = none := by kernel_rfl
@[simp] theorem tfld_40_12 : tfld Try.prog 40 12 = none := by kernel_rfl
@[simp] theorem tfld_40_13 : tfld Try.prog 40 13 = none := by kernel_rfl
@[simp] theorem tfld_40_14 : tfld Try.prog 40 14 = none := by kernel_rfl
@[simp] theorem tfld_40_15 : tfld Try.prog 40 15 = none := by kernel_rfl
@[simp] theorem tfld_40_16 : tfld Try.prog 40 16 = none := by kernel_rfl
@[simp] theorem tfld_40_17 : tfld Try.prog 40 17 = none := by kernel_rfl
@[simp] theorem tfld_40_18 : tfld Try.prog 40 18 = none := by kernel_rfl
@[simp] theorem tfld_40_19 : tfld Try.prog 40 19 = none := by kernel_rfl
@[simp] theorem tfld_40_20 : tfld Try.prog 40 20 = none := by kernel_rfl
@[simp] theorem tfld_40_21 : tfld Try.prog 40 21 = none := by kernel_rfl
@[simp] theorem tfld_40_22 : tfld Try.prog 40 22 = none := by kernel_rfl
@[simp] theorem tfld_40_23 : tfld Try.prog 40 23 = none := by kernel_rfl
@[simp] theorem tfld_40_24 : tfld Try.prog 40 24 = none := by kernel_rfl
@[simp] theorem tfld_40_25 : tfld Try.prog 40 25 = none := by kernel_rfl
@[simp] theorem tfld_40_26 : tfld Try.prog 40 26 = none := by kernel_rfl
@[simp] theorem tfld_40_27 : tfld Try.prog 40 27 = none := by kernel_rfl
@[simp] theorem tfld_40_28 : tfld Try.prog 40 28 = none := by kernel_rfl
@[simp] theorem tfld_40_29 : tfld Try.prog 40 29 = none := by kernel_rfl
@[simp] theorem tsz_41 : tsz Try.prog 41 = some 20 := by kernel_rfl
@[simp] theorem tagg_41 : tagg Try.prog 41 = some true := by kernel_rfl
@[simp] theorem tzero_41 : tzero Try.prog 41 = some
  (Value.agg
    {
      toList :=
        [Value.int IntKind.u8 (Int.ofNat 0), Value.int IntKind.u8 (Int.ofNat 0), Value.int IntKind.u8 (Int.ofNat 0), Value.int IntKind.u8 (Int.ofNat 0), Value.int IntKind.u8 (Int.ofNat 0),
          Value.int IntKind.u8 (Int.ofNat 0), Value.int IntKind.u8 (Int.ofNat 0), Value.int IntKind.u8 (Int.ofNat 0), Value.int IntKind.u8 (Int.ofNat 0), Value.int IntKind.u8 (Int.ofNat 0),
          Value.int IntKind.u16 (Int.ofNat 0), Value.int IntKind.u8 (Int.ofNat 0), Value.int IntKind.u8 (Int.ofNat 0), Value.int IntKind.u8 (Int.ofNat 0), Value.int IntKind.u16 (Int.ofNat 0),
          Value.int IntKind.u16 (Int.ofNat 0), Value.int IntKind.u16 (Int.ofNat 0), Value.int IntKind.u8 (Int.ofNat 0), Value.int IntKind.u8 (Int.ofNat 0), Value.int IntKind.u16 (Int.ofNat 0)] }) := by kernel_rfl
@[simp] theorem tplaces_41 : tplaces Try.prog 41 = some [(0, 1), (1, 1), (2, 1), (3, 1), (4, 1), (5, 5), (10, 1), (11, 1), (12, 1), (13, 1), (14, 1), (15, 1), (16, 1), (17, 1), (18, 1), (19, 1)] := by kernel_rfl
@[simp] theorem telem_41 : telem Try.prog 41 = none := by kernel_rfl
@[simp] theorem tint_41 : tint Try.prog 41 = none := by kernel_rfl
@[simp] theorem tfld_41_0 : tfld Try.prog 41 0 = some (0, 5) := by kernel_rfl
@[simp] theorem tfld_41_1 : tfld Try.prog 41 1 = some (1, 5) := by kernel_rfl
@[simp] theorem tfld_41_2 : tfld Try.prog 41 2 = some (2, 5) := by kernel_rfl
@[simp] theorem tfld_41_3 : tfld Try.prog 41 3 = some (3, 5) := by kernel_rfl
@[simp] theorem tfld_41_4 : tfld Try.prog 41 4 = some (4, 5) := by kernel_rfl
@[simp] theorem tfld_41_5 : tfld Try.prog 41 5 = some (5, 39) := by kernel_rfl
@[simp] theorem tfld_41_6 : tfld Try.prog 41 6 = some (10, 40) := by kernel_rfl
@[simp] theorem tfld_41_7 : tfld Try.prog 41 7 = some (11, 5) := by kernel_rfl
@[simp] theorem tfld_41_8 : tfld Try.prog 41 8 = some (12, 5) := by kernel_rfl
@[simp] theorem tfld_41_9 : tfld Try.prog 41 9 = some (13, 5) := by kernel_rfl
@[simp] theorem tfld_41_10 : tfld Try.prog 41 10 = some (14, 40) := by kernel_rfl
@[simp] theorem tfld_41_11 : tfld Try.prog 41 11 = some (15, 40) := by kernel_rfl
@[simp] theorem tfld_41_12 : tfld Try.prog 41 12 = some (16, 40) := by kernel_rfl
@[simp] theorem tfld_41_13 : tfld Try.prog 41 13 = some (17, 5) := by kernel_rfl
@[simp] theorem tfld_41_14 : tfld Try.prog 41 14 = some (18, 5) := by kernel_rfl
@[simp] theorem tfld_41_15 : tfld Try.prog 41 15 = some (19, 40) := by kernel_rfl
@[simp] theorem tfld_41_16 : tfld Try.prog 41 16 = none := by kernel_rfl
@[simp] theorem tfld_41_17 : tfld Try.prog 41 17 = none := by kernel_rfl
@[simp] theorem tfld_41_18 : tfld Try.prog 41 18 = none := by kernel_rfl
@[simp] theorem tfld_41_19 : tfld Try.prog 41 19 = none := by kernel_rfl
@[simp] theorem tfld_41_20 : tfld Try.prog 41 20 = none := by kernel_rfl
@[simp] theorem tfld_41_21 : tfld Try.prog 41 21 = none := by kernel_rfl
@[simp] theorem tfld_41_22 : tfld Try.prog 41 22 = none := by kernel_rfl
@[simp] theorem tfld_41_23 : tfld Try.prog 41 23 = none := by kernel_rfl
@[simp] theorem tfld_41_24 : tfld Try.prog 41 24 = none := by kernel_rfl
@[simp] theorem tfld_41_25 : tfld Try.prog 41 25 = none := by kernel_rfl
@[simp] theorem tfld_41_26 : tfld Try.prog 41 26 = none := by kernel_rfl
@[simp] theorem tfld_41_27 : tfld Try.prog 41 27 = none := by kernel_rfl
@[simp] theorem tfld_41_28 : tfld Try.prog 41 28 = none := by kernel_rfl
@[simp] theorem tfld_41_29 : tfld Try.prog 41 29 = none := by kernel_rfl
@[simp] theorem tsz_42 : tsz Try.prog 42 = some 20 := by kernel_rfl
@[simp] theorem tagg_42 : tagg Try.prog 42 = some true := by kernel_rfl
@[simp] theorem tzero_42 : tzero Try.prog 42 = some
  (Value.agg
    {
      toList :=
        [Value.int IntKind.u8 (Int.ofNat 0), Value.int IntKind.u8 (Int.ofNat 0), Value.int IntKind.u8 (Int.ofNat 0), Value.int IntKind.u8 (Int.ofNat 0), Value.int IntKind.u8 (Int.ofNat 0),
          Value.int IntKind.u8 (Int.ofNat 0), Value.int IntKind.u8 (Int.ofNat 0), Value.int IntKind.u8 (Int.ofNat 0), Value.int IntKind.u8 (Int.ofNat 0), Value.int IntKind.u8 (Int.ofNat 0),
          Value.int IntKind.u16 (Int.ofNat 0), Value.int IntKind.u8 (Int.ofNat 0), Value.int IntKind.u8 (Int.ofNat 0), Value.int IntKind.u8 (Int.ofNat 0), Value.int IntKind.u16 (Int.ofNat 0),
          Value.int IntKind.u16 (Int.ofNat 0), Value.int IntKind.u16 (Int.ofNat 0), Value.int IntKind.u8 (Int.ofNat 0), Value.int IntKind.u8 (Int.ofNat 0), Value.int IntKind.u16 (Int.ofNat 0)] }) := by kernel_rfl
@[simp] theorem tplaces_42 : tplaces Try.prog 42 = some [(0, 1), (1, 1), (2, 1), (3, 1), (4, 1), (5, 5), (10, 1), (11, 1), (12, 1), (13, 1), (14, 1), (15, 1), (16, 1), (17, 1), (18, 1), (19, 1)] := by kernel_rfl
@[simp] theorem telem_42 : telem Try.prog 42 = none := by kernel_rfl
@[simp] theorem tint_42 : tint Try.prog 42 = none := by kernel_rfl
@[simp] theorem tfld_42_0 : tfld Try.prog 42 0 = some (0, 5) := by kernel_rfl
@[simp] theorem tfld_42_1 : tfld Try.prog 42 1 = some (1, 5) := by kernel_rfl
@[simp] theorem tfld_42_2 : tfld Try.prog 42 2 = some (2, 5) := by kernel_rfl
@[simp] theorem tfld_42_3 : tfld Try.prog 42 3 = some (3, 5) := by kernel_rfl
@[simp] theorem tfld_42_4 : tfld Try.prog 42 4 = some (4, 5) := by kernel_rfl
@[simp] theorem tfld_42_5 : tfld Try.prog 42 5 = some (5, 39) := by kernel_rfl
@[simp] theorem tfld_42_6 : tfld Try.prog 42 6 = some (10, 40) := by kernel_rfl
@[simp] theorem tfld_42_7 : tfld Try.prog 42 7 = some (11, 5) := by kernel_rfl
@[simp] theorem tfld_42_8 : tfld Try.prog 42 8 = some (12, 5) := by kernel_rfl
@[simp] theorem tfld_42_9 : tfld Try.prog 42 9 = some (13, 5) := by kernel_rfl
@[simp] theorem tfld_42_10 : tfld Try.prog 42 10 = some (14, 40) := by kernel_rfl
@[simp] theorem tfld_42_11 : tfld Try.prog 42 11 = some (15, 40) := by kernel_rfl
@[simp] theorem tfld_42_12 : tfld Try.prog 42 12 = some (16, 40) := by kernel_rfl
@[simp] theorem tfld_42_13 : tfld Try.prog 42 13 = some (17, 5) := by kernel_rfl
@[simp] theorem tfld_42_14 : tfld Try.prog 42 14 = some (18, 5) := by kernel_rfl
@[simp] theorem tfld_42_15 : tfld Try.prog 42 15 = some (19, 40) := by kernel_rfl
@[simp] theorem tfld_42_16 : tfld Try.prog 42 16 = none := by kernel_rfl
@[simp] theorem tfld_42_17 : tfld Try.prog 42 17 = none := by kernel_rfl
@[simp] theorem tfld_42_18 : tfld Try.prog 42 18 = none := by kernel_rfl
@[simp] theorem tfld_42_19 : tfld Try.prog 42 19 = none := by kernel_rfl
@[simp] theorem tfld_42_20 : tfld Try.prog 42 20 = none := by kernel_rfl
@[simp] theorem tfld_42_21 : tfld Try.prog 42 21 = none := by kernel_rfl
@[simp] theorem tfld_42_22 : tfld Try.prog 42 22 = none := by kernel_rfl
@[simp] theorem tfld_42_23 : tfld Try.prog 42 23 = none := by kernel_rfl
@[simp] theorem tfld_42_24 : tfld Try.prog 42 24 = none := by kernel_rfl
@[simp] theorem tfld_42_25 : tfld Try.prog 42 25 = none := by kernel_rfl
@[simp] theorem tfld_42_26 : tfld Try.prog 42 26 = none := by kernel_rfl
@[simp] theorem tfld_42_27 : tfld Try.prog 42 27 = none := by kernel_rfl
@[simp] theorem tfld_42_28 : tfld Try.prog 42 28 = none := by kernel_rfl
@[simp] theorem tfld_42_29 : tfld Try.prog 42 29 = none := by kernel_rfl
@[simp] theorem tsz_43 : tsz Try.prog 43 = some 1 := by kernel_rfl
@[simp] theorem tagg_43 : tagg Try.prog 43 = some false := by kernel_rfl
@[simp] theorem tzero_43 : tzero Try.prog 43 = some Value.nilFunc := by kernel_rfl
@[simp] theorem tplaces_43 : tplaces Try.prog 43 = none := by kernel_rfl
@[simp] theorem telem_43 : telem Try.prog 43 = none := by kernel_rfl
@[simp] theorem tint_43 : tint Try.prog 43 = none := by kernel_rfl
@[simp] theorem tfld_43_0 : tfld Try.prog 43 0 = none := by kernel_rfl
@[simp] theorem tfld_43_1 : tfld Try.prog 43 1 = none := by kernel_rfl
@[simp] theorem tfld_43_2 : tfld Try.prog 43 2 = none := by kernel_rfl
@[simp] theorem tfld_43_3 : tfld Try.prog 43 3 = none := by kernel_rfl
@[simp] theorem tfld_43_4 : tfld Try.prog 43 4 = none := by kernel_rfl
@[simp] theorem tfld_43_5 : tfld Try.prog 43 5 = none := by kernel_rfl
@[simp] theorem tfld_43_6 : tfld Try.prog 43 6 = none := by kernel_rfl
@[simp] theorem tfld_43_7 : tfld Try.prog 43 7 = none := by kernel_rfl
@[simp] theorem tfld_43_8 : tfld Try.prog 43 8 = none := by kernel_rfl
@[simp] theorem tfld_43_9 : tfld Try.prog 43 9 = none := by kernel_rfl
@[simp] theorem tfld_43_10 : tfld Try.prog 43 10 = none := by kernel_rfl
@[simp] theorem tfld_43_11 : tfld Try.prog 43 11 = none := by kernel_rfl
@[simp] theorem tfld_43_12 : tfld Try.prog 43 12 = none := by kernel_rfl
@[simp] theorem tfld_43_13 : tfld Try.prog 43 13 = none := by kernel_rfl
@[simp] theorem tfld_43_14 : tfld Try.prog 43 14 = none := by kernel_rfl
@[simp] theorem tfld_43_15 : tfld Try.prog 43 15 = none := by kernel_rfl
@[simp] theorem tfld_43_16 : tfld Try.prog 43 16 = none := by kernel_rfl
@[simp] theorem tfld_43_17 : tfld Try.prog 43 17 = none := by kernel_rfl
@[simp] theorem tfld_43_18 : tfld Try.prog 43 18 = none := by kernel_rfl
@[simp] theorem tfld_43_19 : tfld Try.prog 43 19 = none := by kernel_rfl
@[simp] theorem tfld_43_20 : tfld Try.prog 43 20 = none := by kernel_rfl
@[simp] theorem tfld_43_21 : tfld Try.prog 43 21 = none := by kernel_rfl
@[simp] theorem tfld_43_22 : tfld Try.prog 43 22 = none := by kernel_rfl
@[simp] theorem tfld_43_23 : tfld Try.prog 43 23 = none := by kernel_rfl
@[simp] theorem tfld_43_24 : tfld Try.prog 43 24 = none := by kernel_rfl
@[simp] theorem tfld_43_25 : tfld Try.prog 43 25 = none := by kernel_rfl
@[simp] theorem tfld_43_26 : tfld Try.prog 43 26 = none := by kernel_rfl
@[simp] theorem tfld_43_27 : tfld Try.prog 43 27 = none := by kernel_rfl
@[simp] theorem tfld_43_28 : tfld Try.prog 43 28 = none := by kernel_rfl
@[simp] theorem tfld_43_29 : tfld Try.prog 43 29 = none := by kernel_rfl
@[simp] theorem tsz_44 : tsz Try.prog 44 = some 1 := by kernel_rfl
@[simp] theorem tagg_44 : tagg Try.prog 44 = some false := by kernel_rfl
@[simp] theorem tzero_44 : tzero Try.prog 44 = some Value.nilFunc := by kernel_rfl
@[simp] theorem tplaces_44 : tplaces Try.prog 44 = none := by kernel_rfl
@[simp] theorem telem_44 : telem Try.prog 44 = none := by kernel_rfl
@[simp] theorem tint_44 : tint Try.prog 44 = none := by kernel_rfl
@[simp] theorem tfld_44_0 : tfld Try.prog 44 0 = none := by kernel_rfl
@[simp] theorem tfld_44_1 : tfld Try.prog 44 1 = none := by kernel_rfl
@[simp] theorem tfld_44_2 : tfld Try.prog 44 2 = none := by kernel_rfl
@[simp] theorem tfld_44_3 : tfld Try.prog 44 3 = none := by kernel_rfl
@[simp] theorem tfld_44_4 : tfld Try.prog 44 4 = none := by kernel_rfl
@[simp] theorem tfld_44_5 : tfld Try.prog 44 5 = none := by kernel_rfl
@[simp] theorem tfld_44_6 : tfld Try.prog 44 6 = none := by kernel_rfl
@[simp] theorem tfld_44_7 : tfld Try.prog 44 7 = none := by kernel_rfl
@[simp] theorem tfld_44_8 : tfld Try.prog 44 8 = none := by kernel_rfl
@[simp] theorem tfld_44_9 : tfld Try.prog 44 9 = none := by kernel_rfl
@[simp] theorem tfld_44_10 : tfld Try.prog 44 10 = none := by kernel_rfl
@[simp] theorem tfld_44_11 : tfld Try.prog 44 11 = none := by kernel_rfl
@[simp] theorem tfld_44_12 : tfld Try.prog 44 12 = none := by kernel_rfl
@[simp] theorem tfld_44_13 : tfld Try.prog 44 13 = none := by kernel_rfl
@[simp] theorem tfld_44_14 : tfld Try.prog 44 14 = none := by kernel_rfl
@[simp] theorem tfld_44_15 : tfld Try.prog 44 15 = none := by kernel_rfl
@[simp] theorem tfld_44_16 : tfld Try.prog 44 16 = none := by kernel_rfl
@[simp] theorem tfld_44_17 : tfld Try.prog 44 17 = none := by kernel_rfl
@[simp] theorem tfld_44_18 : tfld Try.prog 44 18 = none := by kernel_rfl
@[simp] theorem tfld_44_19 : tfld Try.prog 44 19 = none := by kernel_rfl
@[simp] theorem tfld_44_20 : tfld Try.prog 44 20 = none := by kernel_rfl
@[simp] theorem tfld_44_21 : tfld Try.prog 44 21 = none := by kernel_rfl
@[simp] theorem tfld_44_22 : tfld Try.prog 44 22 = none := by kernel_rfl
@[simp] theorem tfld_44_23 : tfld Try.prog 44 23 = none := by kernel_rfl
@[simp] theorem tfld_44_24 : tfld Try.prog 44 24 = none := by kernel_rfl
@[simp] theorem tfld_44_25 : tfld Try.prog 44 25 = none := by kernel_rfl
@[simp] theorem tfld_44_26 : tfld Try.prog 44 26 = none := by kernel_rfl
@[simp] theorem tfld_44_27 : tfld Try.prog 44 27 = none := by kernel_rfl
@[simp] theorem tfld_44_28 : tfld Try.prog 44 28 = none := by kernel_rfl
@[simp] theorem tfld_44_29 : tfld Try.prog 44 29 = none := by kernel_rfl
@[simp] theorem tsz_45 : tsz Try.prog 45 = some 1 := by kernel_rfl
@[simp] theorem tagg_45 : tagg Try.prog 45 = some false := by kernel_rfl
@[simp] theorem tzero_45 : tzero Try.prog 45 = some (Value.tuple { toList := [Value.int IntKind.i64 (Int.ofNat 0), Value.int IntKind.i64 (Int.ofNat 0)] }) := by kernel_rfl
@[simp] theorem tplaces_45 : tplaces Try.prog 45 = none := by kernel_rfl
@[simp] theorem telem_45 : telem Try.prog 45 = none := by kernel_rfl
@[simp] theorem tint_45 : tint Try.prog 45 = none := by kernel_rfl
@[simp] theorem tfld_45_0 : tfld Try.prog 45 0 = none := by kernel_rfl
@[simp] theorem tfld_45_1 : tfld Try.prog 45 1 = none := by kernel_rfl
@[simp] theorem tfld_45_2 : tfld Try.prog 45 2 = none := by kernel_rfl
@[simp] theorem tfld_45_3 : tfld Try.prog 45 3 = none := by kernel_rfl
@[simp] theorem tfld_45_4 : tfld Try.prog 45 4 = none := by kernel_rfl
@[simp] theorem tfld_45_5 : tfld Try.prog 45 5 = none := by kernel_rfl
@[simp] theorem tfld_45_6 : tfld Try.prog 45 6 = none := by kernel_rfl
@[simp] theorem tfld_45_7 : tfld Try.prog 45 7 = none := by kernel_rfl
@[simp] theorem tfld_45_8 : tfld Try.prog 45 8 = none := by kernel_rfl
@[simp] theorem tfld_45_9 : tfld Try.prog 45 9 = none := by kernel_rfl
@[simp] theorem tfld_45_10 : tfld Try.prog 45 10 = none := by kernel_rfl
@[simp] theorem tfld_45_11 : tfld Try.prog 45 11 = none := by kernel_rfl
@[simp] theorem tfld_45_12 : tfld Try.prog 45 12 = none := by kernel_rfl
@[simp] theorem tfld_45_13 : tfld Try.prog 45 13 = none := by kernel_rfl
@[simp] theorem tfld_45_14 : tfld Try.prog 45 14 = none := by kernel_rfl
@[simp] theorem tfld_45_15 : tfld Try.prog 45 15 = none := by kernel_rfl
@[simp] theorem tfld_45_16 : tfld Try.prog 45 16 = none := by kernel_rfl
@[simp] theorem tfld_45_17 : tfld Try.prog 45 17 = none := by kernel_rfl
@[simp] theorem tfld_45_18 : tfld Try.prog 45 18 = none := by kernel_rfl
@[simp] theorem tfld_45_19 : tfld Try.prog 45 19 = none := by kernel_rfl
@[simp] theorem tfld_45_20 : tfld Try.prog 45 20 = none := by kernel_rfl
@[simp] theorem tfld_45_21 : tfld Try.prog 45 21 = none := by kernel_rfl
@[simp] theorem tfld_45_22 : tfld Try.prog 45 22 = none := by kernel_rfl
@[simp] theorem tfld_45_23 : tfld Try.prog 45 23 = none := by kernel_rfl
@[simp] theorem tfld_45_24 : tfld Try.prog 45 24 = none := by kernel_rfl
@[simp] theorem tfld_45_25 : tfld Try.prog 45 25 = none := by kernel_rfl
@[simp] theorem tfld_45_26 : tfld Try.prog 45 26 = none := by kernel_rfl
@[simp] theorem tfld_45_27 : tfld Try.prog 45 27 = none := by kernel_rfl
@[simp] theorem tfld_45_28 : tfld Try.prog 45 28 = none := by kernel_rfl
@[simp] theorem tfld_45_29 : tfld Try.prog 45 29 = none := by kernel_rfl
@[simp] theorem tsz_46 : tsz Try.prog 46 = some 1 := by kernel_rfl
@[simp] theorem tagg_46 : tagg Try.prog 46 = some false := by kernel_rfl
@[simp] theorem tzero_46 : tzero Try.prog 46 = some Value.nilFunc := by kernel_rfl
@[simp] theorem tplaces_46 : tplaces Try.prog 46 = none := by kernel_rfl
@[simp] theorem telem_46 : telem Try.prog 46 = none := by kernel_rfl
@[simp] theorem tint_46 : tint Try.prog 46 = none := by kernel_rfl
@[simp] theorem tfld_46_0 : tfld Try.prog 46 0 = none := by kernel_rfl
@[simp] theorem tfld_46_1 : tfld Try.prog 46 1 = none := by kernel_rfl
@[simp] theorem tfld_46_2 : tfld Try.prog 46 2 = none := by kernel_rfl
@[simp] theorem tfld_46_3 : tfld Try.prog 46 3 = none := by kernel_rfl
@[simp] theorem tfld_46_4 : tfld Try.prog 46 4 = none := by kernel_rfl
@[simp] theorem tfld_46_5 : tfld Try.prog 46 5 = none := by kernel_rfl
@[simp] theorem tfld_46_6 : tfld Try.prog 46 6 = none := by kernel_rfl
@[simp] theorem tfld_46_7 : tfld Try.prog 46 7 = none := by kernel_rfl
@[simp] theorem tfld_46_8 : tfld Try.prog 46 8 = none := by kernel_rfl
@[simp] theorem tfld_46_9 : tfld Try.prog 46 9 = none := by kernel_rfl
@[simp] theorem tfld_46_10 : tfld Try.prog 46 10 = none := by kernel_rfl
@[simp] theorem tfld_46_11 : tfld Try.prog 46 11 = none := by kernel_rfl
@[simp] theorem tfld_46_12 : tfld Try.prog 46 12 = none := by kernel_rfl
@[simp] theorem tfld_46_13 : tfld Try.prog 46 13 = none := by kernel_rfl
@[simp] theorem tfld_46_14 : tfld Try.prog 46 14 = none := by kernel_rfl
@[simp] theorem tfld_46_15 : tfld Try.prog 46 15 = none := by kernel_rfl
@[simp] theorem tfld_46_16 : tfld Try.prog 46 16 = none := by kernel_rfl
@[simp] theorem tfld_46_17 : tfld Try.prog 46 17 = none := by kernel_rfl
@[simp] theorem tfld_46_18 : tfld Try.prog 46 18 = none := by kernel_rfl
@[simp] theorem tfld_46_19 : tfld Try.prog 46 19 = none := by kernel_rfl
@[simp] theorem tfld_46_20 : tfld Try.prog 46 20 = none := by kernel_rfl
@[simp] theorem tfld_46_21 : tfld Try.prog 46 21 = none := by kernel_rfl
@[simp] theorem tfld_46_22 : tfld Try.prog 46 22 = none := by kernel_rfl
@[simp] theorem tfld_46_23 : tfld Try.prog 46 23 = none := by kernel_rfl
@[simp] theorem tfld_46_24 : tfld Try.prog 46 24 = none := by kernel_rfl
@[simp] theorem tfld_46_25 : tfld Try.prog 46 25 = none := by kernel_rfl
@[simp] theorem tfld_46_26 : tfld Try.prog 46 26 = none := by kernel_rfl
@[simp] theorem tfld_46_27 : tfld Try.prog 46 27 = none := by kernel_rfl
@[simp] theorem tfld_46_28 : tfld Try.prog 46 28 = none := by kernel_rfl
@[simp] theorem tfld_46_29 : tfld Try.prog 46 29 = none := by kernel_rfl
@[simp] theorem tsz_47 : tsz Try.prog 47 = some 1 := by kernel_rfl
@[simp] theorem tagg_47 : tagg Try.prog 47 = some false := by kernel_rfl
@[simp] theorem tzero_47 : tzero Try.prog 47 = some Value.nilFunc := by kernel_rfl
@[simp] theorem tplaces_47 : tplaces Try.prog 47 = none := by kernel_rfl
@[simp] theorem telem_47 : telem Try.prog 47 = none := by kernel_rfl
@[simp] theorem tint_47 : tint Try.prog 47 = none := by kernel_rfl
@[simp] theorem tfld_47_0 : tfld Try.prog 47 0 = none := by kernel_rfl
@[simp] theorem tfld_47_1 : tfld Try.prog 47 1 = none := by kernel_rfl
@[simp] theorem tfld_47_2 : tfld Try.prog 47 2 = none := by kernel_rfl
@[simp] theorem tfld_47_3 : tfld Try.prog 47 3 = none := by kernel_rfl
@[simp] theorem tfld_47_4 : tfld Try.prog 47 4 = none := by kernel_rfl
@[simp] theorem tfld_47_5 : tfld Try.prog 47 5 = none := by kernel_rfl
@[simp] theorem tfld_47_6 : tfld Try.prog 47 6 = none := by kernel_rfl
@[simp] theorem tfld_47_7 : tfld Try.prog 47 7 = none := by kernel_rfl
@[simp] theorem tfld_47_8 : tfld Try.prog 47 8 = none := by kernel_rfl
@[simp] theorem tfld_47_9 : tfld Try.prog 47 9 = none := by kernel_rfl
@[simp] theorem tfld_47_10 : tfld Try.prog 47 10 = none := by kernel_rfl
@[simp] theorem tfld_47_11 : tfld Try.prog 47 11 = none := by kernel_rfl
@[simp] theorem tfld_47_12 : tfld Try.prog 47 12 = none := by kernel_rfl
@[simp] theorem tfld_47_13 : tfld Try.prog 47 13 = none := by kernel_rfl
@[simp] theorem tfld_47_14 : tfld Try.prog 47 14 = none := by kernel_rfl
@[simp] theorem tfld_47_15 : tfld Try.prog 47 15 = none := by kernel_rfl
@[simp] theorem tfld_47_16 : tfld Try.prog 47 16 = none := by kernel_rfl
@[simp] theorem tfld_47_17 : tfld Try.prog 47 17 = none := by kernel_rfl
@[simp] theorem tfld_47_18 : tfld Try.prog 47 18 = none := by kernel_rfl
@[simp] theorem tfld_47_19 : tfld Try.prog 47 19 = none := by kernel_rfl
@[simp] theorem tfld_47_20 : tfld Try.prog 47 20 = none := by kernel_rfl
@[simp] theorem tfld_47_21 : tfld Try.prog 47 21 = none := by kernel_rfl
@[simp] theorem tfld_47_22 : tfld Try.prog 47 22 = none := by kernel_rfl
@[simp] theorem tfld_47_23 : tfld Try.prog 47 23 = none := by kernel_rfl
@[simp] theorem tfld_47_24 : tfld Try.prog 47 24 = none := by kernel_rfl
@[simp] theorem tfld_47_25 : tfld Try.prog 47 25 = none := by kernel_rfl
@[simp] theorem tfld_47_26 : tfld Try.prog 47 26 = none := by kernel_rfl
@[simp] theorem tfld_47_27 : tfld Try.prog 47 27 = none := by kernel_rfl
@[simp] theorem tfld_47_28 : tfld Try.prog 47 28 = none := by kernel_rfl
@[simp] theorem tfld_47_29 : tfld Try.prog 47 29 = none := by kernel_rfl
@[simp] theorem tsz_48 : tsz Try.prog 48 = some 1 := by kernel_rfl
@[simp] theorem tagg_48 : tagg Try.prog 48 = some false := by kernel_rfl
@[simp] theorem tzero_48 : tzero Try.prog 48 = some Value.nilFunc := by kernel_rfl
@[simp] theorem tplaces_48 : tplaces Try.prog 48 = none := by kernel_rfl
@[simp] theorem telem_48 : telem Try.prog 48 = none := by kernel_rfl
@[simp] theorem tint_48 : tint Try.prog 48 = none := by kernel_rfl
@[simp] theorem tfld_48_0 : tfld Try.prog 48 0 = none := by kernel_rfl
@[simp] theorem tfld_48_1 : tfld Try.prog 48 1 = none := by kernel_rfl
@[simp] theorem tfld_48_2 : tfld Try.prog 48 2 = none := by kernel_rfl
@[simp] theorem tfld_48_3 : tfld Try.prog 48 3 = none := by kernel_rfl
@[simp] theorem tfld_48_4 : tfld Try.prog 48 4 = none := by kernel_rfl
@[simp] theorem tfld_48_5 : tfld Try.prog 48 5 = none := by kernel_rfl
@[simp] theorem tfld_48_6 : tfld Try.prog 48 6 = none := by kernel_rfl
@[simp] theorem tfld_48_7 : tfld Try.prog 48 7 = none := by kernel_rfl
@[simp] theorem tfld_48_8 : tfld Try.prog 48 8 = none := by kernel_rfl
@[simp] theorem tfld_48_9 : tfld Try.prog 48 9 = none := by kernel_rfl
@[simp] theorem tfld_48_10 : tfld Try.prog 48 10 = none := by kernel_rfl
@[simp] theorem tfld_48_11 : tfld Try.prog 48 11 = none := by kernel_rfl
@[simp] theorem tfld_48_12 : tfld Try.prog 48 12 = none := by kernel_rfl
@[simp] theorem tfld_48_13 : tfld Try.prog 48 13 = none := by kernel_rfl
@[simp] theorem tfld_48_14 : tfld Try.prog 48 14 = none := by kernel_rfl
@[simp] theorem tfld_48_15 : tfld Try.prog 48 15 = none := by kernel_rfl
@[simp] theorem tfld_48_16 : tfld Try.prog 48 16 = none := by kernel_rfl
@[simp] theorem tfld_48_17 : tfld Try.prog 48 17 = none := by kernel_rfl
@[simp] theorem tfld_48_18 : tfld Try.prog 48 18 = none := by kernel_rfl
@[simp] theorem tfld_48_19 : tfld Try.prog 48 19 = none := by kernel_rfl
@[simp] theorem tfld_48_20 : tfld Try.prog 48 20 = none := by kernel_rfl
@[simp] theorem tfld_48_21 : tfld Try.prog 48 21 = none := by kernel_rfl
@[simp] theorem tfld_48_22 : tfld Try.prog 48 22 = none := by kernel_rfl
@[simp] theorem tfld_48_23 : tfld Try.prog 48 23 = none := by kernel_rfl
@[simp] theorem tfld_48_24 : tfld Try.prog 48 24 = none := by kernel_rfl
@[simp] theorem tfld_48_25 : tfld Try.prog 48 25 = none := by kernel_rfl
@[simp] theorem tfld_48_26 : tfld Try.prog 48 26 = none := by kernel_rfl
@[simp] theorem tfld_48_27 : tfld Try.prog 48 27 = none := by kernel_rfl
@[simp] theorem tfld_48_28 : tfld Try.prog 48 28 = none := by kernel_rfl
@[simp] theorem tfld_48_29 : tfld Try.prog 48 29 = none := by kernel_rfl
@[simp] theorem tsz_49 : tsz Try.prog 49 = some 1 := by kernel_rfl
@[simp] theorem tagg_49 : tagg Try.prog 49 = some false := by kernel_rfl
@[simp] theorem tzero_49 : tzero Try.prog 49 = some Value.nilFunc := by kernel_rfl
@[simp] theorem tplaces_49 : tplaces Try.prog 49 = none := by kernel_rfl
@[simp] theorem telem_49 : telem Try.prog 49 = none := by kernel_rfl
@[simp] theorem tint_49 : tint Try.prog 49 = none := by kernel_rfl
@[simp] theorem tfld_49_0 : tfld Try.prog 49 0 = none := by kernel_rfl
@[simp] theorem tfld_49_1 : tfld Try.prog 49 1 = none := by kernel_rfl
@[simp] theorem tfld_49_2 : tfld Try.prog 49 2 = none := by kernel_rfl
@[simp] theorem tfld_49_3 : tfld Try.prog 49 3 = none := by kernel_rfl
@[simp] theorem tfld_49_4 : tfld Try.prog 49 4 = none := by kernel_rfl
@[simp] theorem tfld_49_5 : tfld Try.prog 49 5 = none := by kernel_rfl
@[simp] theorem tfld_49_6 : tfld Try.prog 49 6 = none := by kernel_rfl
@[simp] theorem tfld_49_7 : tfld Try.prog 49 7 = none := by kernel_rfl
@[simp] theorem tfld_49_8 : tfld Try.prog 49 8 = none := by kernel_rfl
@[simp] theorem tfld_49_9 : tfld Try.prog 49 9 = none := by kernel_rfl
@[simp] theorem tfld_49_10 : tfld Try.prog 49 10 = none := by kernel_rfl
@[simp] theorem tfld_49_11 : tfld Try.prog 49 11 = none := by kernel_rfl
@[simp] theorem tfld_49_12 : tfld Try.prog 49 12 = none := by kernel_rfl
@[simp] theorem tfld_49_13 : tfld Try.prog 49 13 = none := by kernel_rfl
@[simp] theorem tfld_49_14 : tfld Try.prog 49 14 = none := by kernel_rfl
@[simp] theorem tfld_49_15 : tfld Try.prog 49 15 = none := by kernel_rfl
@[simp] theorem tfld_49_16 : tfld Try.prog 49 16 = none := by kernel_rfl
@[simp] theorem tfld_49_17 : tfld Try.prog 49 17 = none := by kernel_rfl
@[simp] theorem tfld_49_18 : tfld Try.prog 49 18 = none := by kernel_rfl
@[simp] theorem tfld_49_19 : tfld Try.prog 49 19 = none := by kernel_rfl
@[simp] theorem tfld_49_20 : tfld Try.prog 49 20 = none := by kernel_rfl
@[simp] theorem tfld_49_21 : tfld Try.prog 49 21 = none := by kernel_rfl
@[simp] theorem tfld_49_22 : tfld Try.prog 49 22 = none := by kernel_rfl
@[simp] theorem tfld_49_23 : tfld Try.prog 49 23 = none := by kernel_rfl
@[simp] theorem tfld_49_24 : tfld Try.prog 49 24 = none := by kernel_rfl
@[simp] theorem tfld_49_25 : tfld Try.prog 49 25 = none := by kernel_rfl
@[simp] theorem tfld_49_26 : tfld Try.prog 49 26 = none := by kernel_rfl
@[simp] theorem tfld_49_27 : tfld Try.prog 49 27 = none := by kernel_rfl
@[simp] theorem tfld_49_28 : tfld Try.prog 49 28 = none := by kernel_rfl
@[simp] theorem tfld_49_29 : tfld Try.prog 49 29 = none := by kernel_rfl
@[simp] theorem tsz_50 : tsz Try.prog 50 = some 1 := by kernel_rfl
@[simp] theorem tagg_50 : tagg Try.prog 50 = some false := by kernel_rfl
@[simp] theorem tzero_50 : tzero Try.prog 50 = some Value.nilFunc := by kernel_rfl
@[simp] theorem tplaces_50 : tplaces Try.prog 50 = none := by kernel_rfl
@[simp] theorem telem_50 : telem Try.prog 50 = none := by kernel_rfl
@[simp] theorem tint_50 : tint Try.prog 50 = none := by kernel_rfl
@[simp] theorem tfld_50_0 : tfld Try.prog 50 0 = none := by kernel_rfl
@[simp] theorem tfld_50_1 : tfld Try.prog 50 1 = none := by kernel_rfl
@[simp] theorem tfld_50_2 : tfld Try.prog 50 2 = none := by kernel_rfl
@[simp] theorem tfld_50_3 : tfld Try.prog 50 3 = none := by kernel_rfl
@[simp] theorem tfld_50_4 : tfld Try.prog 50 4 = none := by kernel_rfl
@[simp] theorem tfld_50_5 : tfld Try.prog 50 5 = none := by kernel_rfl
@[simp] theorem tfld_50_6 : tfld Try.prog 50 6 = none := by kernel_rfl
@[simp] theorem tfld_50_7 : tfld Try.prog 50 7 = none := by kernel_rfl
@[simp] theorem tfld_50_8 : tfld Try.prog 50 8 = none := by kernel_rfl
@[simp] theorem tfld_50_9 : tfld Try.prog 50 9 = none := by kernel_rfl
@[simp] theorem tfld_50_10 : tfld Try.prog 50 10 = none := by kernel_rfl
@[simp] theorem tfld_50_11 : tfld Try.prog 50 11 = none := by kernel_rfl
@[simp] theorem tfld_50_12 : tfld Try.prog 50 12 = none := by kernel_rfl
@[simp] theorem tfld_50_13 : tfld Try.prog 50 13 = none := by kernel_rfl
@[simp] theorem tfld_50_14 : tfld Try.prog 50 14 = none := by kernel_rfl
@[simp] theorem tfld_50_15 : tfld Try.prog 50 15 = none := by kernel_rfl
@[simp] theorem tfld_50_16 : tfld Try.prog 50 16 = none := by kernel_rfl
@[simp] theorem tfld_50_17 : tfld Try.prog 50 17 = none := by kernel_rfl
@[simp] theorem tfld_50_18 : tfld Try.prog 50 18 = none := by kernel_rfl
@[simp] theorem tfld_50_19 : tfld Try.prog 50 19 = none := by kernel_rfl
@[simp] theorem tfld_50_20 : tfld Try.prog 50 20 = none := by kernel_rfl
@[simp] theorem tfld_50_21 : tfld Try.prog 50 21 = none := by kernel_rfl
@[simp] theorem tfld_50_22 : tfld Try.prog 50 22 = none := by kernel_rfl
@[simp] theorem tfld_50_23 : tfld Try.prog 50 23 = none := by kernel_rfl
@[simp] theorem tfld_50_24 : tfld Try.prog 50 24 = none := by kernel_rfl
@[simp] theorem tfld_50_25 : tfld Try.prog 50 25 = none := by kernel_rfl
@[simp] theorem tfld_50_26 : tfld Try.prog 50 26 = none := by kernel_rfl
@[simp] theorem tfld_50_27 : tfld Try.prog 50 27 = none := by kernel_rfl
@[simp] theorem tfld_50_28 : tfld Try.prog 50 28 = none := by kernel_rfl
@[simp] theorem tfld_50_29 : tfld Try.prog 50 29 = none := by kernel_rfl
@[simp] theorem tsz_51 : tsz Try.prog 51 = some 1 := by kernel_rfl
@[simp] theorem tagg_51 : tagg Try.prog 51 = some false := by kernel_rfl
@[simp] theorem tzero_51 : tzero Try.prog 51 = some Value.nilFunc := by kernel_rfl
@[simp] theorem tplaces_51 : tplaces Try.prog 51 = none := by kernel_rfl
@[simp] theorem telem_51 : telem Try.prog 51 = none := by kernel_rfl
@[simp] theorem tint_51 : tint Try.prog 51 = none := by kernel_rfl
@[simp] theorem tfld_51_0 : tfld Try.prog 51 0 = none := by kernel_rfl
@[simp] theorem tfld_51_1 : tfld Try.prog 51 1 = none := by kernel_rfl
@[simp] theorem tfld_51_2 : tfld Try.prog 51 2 = none := by kernel_rfl
@[simp] theorem tfld_51_3 : tfld Try.prog 51 3 = none := by kernel_rfl
@[simp] theorem tfld_51_4 : tfld Try.prog 51 4 = none := by kernel_rfl
@[simp] theorem tfld_51_5 : tfld Try.prog 51 5 = none := by kernel_rfl
@[simp] theorem tfld_51_6 : tfld Try.prog 51 6 = none := by kernel_rfl
@[simp] theorem tfld_51_7 : tfld Try.prog 51 7 = none := by kernel_rfl
@[simp] theorem tfld_51_8 : tfld Try.prog 51 8 = none := by kernel_rfl
@[simp] theorem tfld_51_9 : tfld Try.prog 51 9 = none := by kernel_rfl
@[simp] theorem tfld_51_10 : tfld Try.prog 51 10 = none := by kernel_rfl
@[simp] theorem tfld_51_11 : tfld Try.prog 51 11 = none := by kernel_rfl
@[simp] theorem tfld_51_12 : tfld Try.prog 51 12 = none := by kernel_rfl
@[simp] theorem tfld_51_13 : tfld Try.prog 51 13 = none := by kernel_rfl
@[simp] theorem tfld_51_14 : tfld Try.prog 51 14 = none := by kernel_rfl
@[simp] theorem tfld_51_15 : tfld Try.prog 51 15 = none := by kernel_rfl
@[simp] theorem tfld_51_16 : tfld Try.prog 51 16 = none := by kernel_rfl
@[simp] theorem tfld_51_17 : tfld Try.prog 51 17 = none := by kernel_rfl
@[simp] theorem tfld_51_18 : tfld Try.prog 51 18 = none := by kernel_rfl
@[simp] theorem tfld_51_19 : tfld Try.prog 51 19 = none := by kernel_rfl
@[simp] theorem tfld_51_20 : tfld Try.prog 51 20 = none := by kernel_rfl
@[simp] theorem tfld_51_21 : tfld Try.prog 51 21 = none := by kernel_rfl
@[simp] theorem tfld_51_22 : tfld Try.prog 51 22 = none := by kernel_rfl
@[simp] theorem tfld_51_23 : tfld Try.prog 51 23 = none := by kernel_rfl
@[simp] theorem tfld_51_24 : tfld Try.prog 51 24 = none := by kernel_rfl
@[simp] theorem tfld_51_25 : tfld Try.prog 51 25 = none := by kernel_rfl
@[simp] theorem tfld_51_26 : tfld Try.prog 51 26 = none := by kernel_rfl
@[simp] theorem tfld_51_27 : tfld Try.prog 51 27 = none := by kernel_rfl
@[simp] theorem tfld_51_28 : tfld Try.prog 51 28 = none := by kernel_rfl
@[simp] theorem tfld_51_29 : tfld Try.prog 51 29 = none := by kernel_rfl
@[simp] theorem tsz_52 : tsz Try.prog 52 = some 1 := by kernel_rfl
@[simp] theorem tagg_52 : tagg Try.prog 52 = some false := by kernel_rfl
@[simp] theorem tzero_52 : tzero Try.prog 52 = some Value.nilFunc := by kernel_rfl
@[simp] theorem tplaces_52 : tplaces Try.prog 52 = none := by kernel_rfl
@[simp] theorem telem_52 : telem Try.prog 52 = none := by kernel_rfl
@[simp] theorem tint_52 : tint Try.prog 52 = none := by kernel_rfl
@[simp] theorem tfld_52_0 : tfld Try.prog 52 0 = none := by kernel_rfl
@[simp] theorem tfld_52_1 : tfld Try.prog 52 1 = none := by kernel_rfl
@[simp] theorem tfld_52_2 : tfld Try.prog 52 2 = none := by kernel_rfl
@[simp] theorem tfld_52_3 : tfld Try.prog 52 3 = none := by kernel_rfl
@[simp] theorem tfld_52_4 : tfld Try.prog 52 4 = none := by kernel_rfl
@[simp] theorem tfld_52_5 : tfld Try.prog 52 5 = none := by kernel_rfl
@[simp] theorem tfld_52_6 : tfld Try.prog 52 6 = none := by kernel_rfl
@[simp] theorem tfld_52_7 : tfld Try.prog 52 7 = none := by kernel_rfl
@[simp] theorem tfld_52_8 : tfld Try.prog 52 8 = none := by kernel_rfl
@[simp] theorem tfld_52_9 : tfld Try.prog 52 9 = none := by kernel_rfl
@[simp] theorem tfld_52_10 : tfld Try.prog 52 10 = none := by kernel_rfl
@[simp] theorem tfld_52_11 : tfld Try.prog 52 11 = none := by kernel_rfl
@[simp] theorem tfld_52_12 : tfld Try.prog 52 12 = none := by kernel_rfl
@[simp] theorem tfld_52_13 : tfld Try.prog 52 13 = none := by kernel_rfl
@[simp] theorem tfld_52_14 : tfld Try.prog 52 14 = none := by kernel_rfl
@[simp] theorem tfld_52_15 : tfld Try.prog 52 15 = none := by kernel_rfl
@[simp] theorem tfld_52_16 : tfld Try.prog 52 16 = none := by kernel_rfl
@[simp] theorem tfld_52_17 : tfld Try.prog 52 17 = none := by kernel_rfl
@[simp] theorem tfld_52_18 : tfld Try.prog 52 18 = none := by kernel_rfl
@[simp] theorem tfld_52_19 : tfld Try.prog 52 19 = none := by kernel_rfl
@[simp] theorem tfld_52_20 : tfld Try.prog 52 20 = none := by kernel_rfl
@[simp] theorem tfld_52_21 : tfld Try.prog 52 21 = none := by kernel_rfl
@[simp] theorem tfld_52_22 : tfld Try.prog 52 22 = none := by kernel_rfl
@[simp] theorem tfld_52_23 : tfld Try.prog 52 23 = none := by kernel_rfl
@[simp] theorem tfld_52_24 : tfld Try.prog 52 24 = none := by kernel_rfl
@[simp] theorem tfld_52_25 : tfld Try.prog 52 25 = none := by kernel_rfl
@[simp] theorem tfld_52_26 : tfld Try.prog 52 26 = none := by kernel_rfl
@[simp] theorem tfld_52_27 : tfld Try.prog 52 27 = none := by kernel_rfl
@[simp] theorem tfld_52_28 : tfld Try.prog 52 28 = none := by kernel_rfl
@[simp] theorem tfld_52_29 : tfld Try.prog 52 29 = none := by kernel_rfl
@[simp] theorem tsz_53 : tsz Try.prog 53 = some 1 := by kernel_rfl
@[simp] theorem tagg_53 : tagg Try.prog 53 = some false := by kernel_rfl
@[simp] theorem tzero_53 : tzero Try.prog 53 = some Value.nilFunc := by kernel_rfl
@[simp] theorem tplaces_53 : tplaces Try.prog 53 = none := by kernel_rfl
@[simp] theorem telem_53 : telem Try.prog 53 = none := by kernel_rfl
@[simp] theorem tint_53 : tint Try.prog 53 = none := by kernel_rfl
@[simp] theorem tfld_53_0 : tfld Try.prog 53 0 = none := by kernel_rfl
@[simp] theorem tfld_53_1 : tfld Try.prog 53 1 = none := by kernel_rfl
@[simp] theorem tfld_53_2 : tfld Try.prog 53 2 = none := by kernel_rfl
@[simp] theorem tfld_53_3 : tfld Try.prog 53 3 = none := by kernel_rfl
@[simp] theorem tfld_53_4 : tfld Try.prog 53 4 = none := by kernel_rfl
@[simp] theorem tfld_53_5 : tfld Try.prog 53 5 = none := by kernel_rfl
@[simp] theorem tfld_53_6 : tfld Try.prog 53 6 = none := by kernel_rfl
@[simp] theorem tfld_53_7 : tfld Try.prog 53 7 = none := by kernel_rfl
@[simp] theorem tfld_53_8 : tfld Try.prog 53 8 = none := by kernel_rfl
@[simp] theorem tfld_53_9 : tfld Try.prog 53 9 = none := by kernel_rfl
@[simp] theorem tfld_53_10 : tfld Try.prog 53 10 = none := by kernel_rfl
@[simp] theorem tfld_53_11 : tfld Try.prog 53 11 = none := by kernel_rfl
@[simp] theorem tfld_53_12 : tfld Try.prog 53 12 = none := by kernel_rfl
@[simp] theorem tfld_53_13 : tfld Try.prog 53 13 = none := by kernel_rfl
@[simp] theorem tfld_53_14 : tfld Try.prog 53 14 = none := by kernel_rfl
@[simp] theorem tfld_53_15 : tfld Try.prog 53 15 = none := by kernel_rfl
@[simp] theorem tfld_53_16 : tfld Try.prog 53 16 = none := by kernel_rfl
@[simp] theorem tfld_53_17 : tfld Try.prog 53 17 = none := by kernel_rfl
@[simp] theorem tfld_53_18 : tfld Try.prog 53 18 = none := by kernel_rfl
@[simp] theorem tfld_53_19 : tfld Try.prog 53 19 = none := by kernel_rfl
@[simp] theorem tfld_53_20 : tfld Try.prog 53 20 = none := by kernel_rfl
@[simp] theorem tfld_53_21 : tfld Try.prog 53 21 = none := by kernel_rfl
@[simp] theorem tfld_53_22 : tfld Try.prog 53 22 = none := by kernel_rfl
@[simp] theorem tfld_53_23 : tfld Try.prog 53 23 = none := by kernel_rfl
@[simp] theorem tfld_53_24 : tfld Try.prog 53 24 = none := by kernel_rfl
@[simp] theorem tfld_53_25 : tfld Try.prog 53 25 = none := by kernel_rfl
@[simp] theorem tfld_53_26 : tfld Try.prog 53 26 = none := by kernel_rfl
@[simp] theorem tfld_53_27 : tfld Try.prog 53 27 = none := by kernel_rfl
@[simp] theorem tfld_53_28 : tfld Try.prog 53 28 = none := by kernel_rfl
@[simp] theorem tfld_53_29 : tfld Try.prog 53 29 = none := by kernel_rfl
@[simp] theorem tsz_54 : tsz Try.prog 54 = some 1 := by kernel_rfl
@[simp] theorem tagg_54 : tagg Try.prog 54 = some false := by kernel_rfl
@[simp] theorem tzero_54 : tzero Try.prog 54 = some Value.nilFunc := by kernel_rfl
@[simp] theorem tplaces_54 : tplaces Try.prog 54 = none := by kernel_rfl
@[simp] theorem telem_54 : telem Try.prog 54 = none := by kernel_rfl
@[simp] theorem tint_54 : tint Try.prog 54 = none := by kernel_rfl
@[simp] theorem tfld_54_0 : tfld Try.prog 54 0 = none := by kernel_rfl
@[simp] theorem tfld_54_1 : tfld Try.prog 54 1 = none := by kernel_rfl
@[simp] theorem tfld_54_2 : tfld Try.prog 54 2 = none := by kernel_rfl
@[simp] theorem tfld_54_3 : tfld Try.prog 54 3 = none := by kernel_rfl
@[simp] theorem tfld_54_4 : tfld Try.prog 54 4 = none := by kernel_rfl
@[simp] theorem tfld_54_5 : tfld Try.prog 54 5 = none := by kernel_rfl
@[simp] theorem tfld_54_6 : tfld Try.prog 54 6 = none := by kernel_rfl
@[simp] theorem tfld_54_7 : tfld Try.prog 54 7 = none := by kernel_rfl
@[simp] theorem tfld_54_8 : tfld Try.prog 54 8 = none := by kernel_rfl
@[simp] theorem tfld_54_9 : tfld Try.prog 54 9 = none := by kernel_rfl
@[simp] theorem tfld_54_10 : tfld Try.prog 54 10 = none := by kernel_rfl
@[simp] theorem tfld_54_11 : tfld Try.prog 54 11 = none := by kernel_rfl
@[simp] theorem tfld_54_12 : tfld Try.prog 54 12 = none := by kernel_rfl
@[simp] theorem tfld_54_13 : tfld Try.prog 54 13 = none := by kernel_rfl
@[simp] theorem tfld_54_14 : tfld Try.prog 54 14 = none := by kernel_rfl
@[simp] theorem tfld_54_15 : tfld Try.prog 54 15 = none := by kernel_rfl
@[simp] theorem tfld_54_16 : tfld Try.prog 54 16 = none := by kernel_rfl
@[simp] theorem tfld_54_17 : tfld Try.prog 54 17 = none := by kernel_rfl
@[simp] theorem tfld_54_18 : tfld Try.prog 54 18 = none := by kernel_rfl
@[simp] theorem tfld_54_19 : tfld Try.prog 54 19 = none := by kernel_rfl
@[simp] theorem tfld_54_20 : tfld Try.prog 54 20 = none := by kernel_rfl
@[simp] theorem tfld_54_21 : tfld Try.prog 54 21 = none := by kernel_rfl
@[simp] theorem tfld_54_22 : tfld Try.prog 54 22 = none := by kernel_rfl
@[simp] theorem tfld_54_23 : tfld Try.prog 54 23 = none := by kernel_rfl
@[simp] theorem tfld_54_24 : tfld Try.prog 54 24 = none := by kernel_rfl
@[simp] theorem tfld_54_25 : tfld Try.prog 54 25 = none := by kernel_rfl
@[simp] theorem tfld_54_26 : tfld Try.prog 54 26 = none := by kernel_rfl
@[simp] theorem tfld_54_27 : tfld Try.prog 54 27 = none := by kernel_rfl
@[simp] theorem tfld_54_28 : tfld Try.prog 54 28 = none := by kernel_rfl
@[simp] theorem tfld_54_29 : tfld Try.prog 54 29 = none := by kernel_rfl
@[simp] theorem tsz_55 : tsz Try.prog 55 = some 1 := by kernel_rfl
@[simp] theorem tagg_55 : tagg Try.prog 55 = some false := by kernel_rfl
@[simp] theorem tzero_55 : tzero Try.prog 55 = some Value.nilFunc := by kernel_rfl
@[simp] theorem tplaces_55 : tplaces Try.prog 55 = none := by kernel_rfl
@[simp] theorem telem_55 : telem Try.prog 55 = none := by kernel_rfl
@[simp] theorem tint_55 : tint Try.prog 55 = none := by kernel_rfl
@[simp] theorem tfld_55_0 : tfld Try.prog 55 0 = none := by kernel_rfl
@[simp] theorem tfld_55_1 : tfld Try.prog 55 1 = none := by kernel_rfl
@[simp] theorem tfld_55_2 : tfld Try.prog 55 2 = none := by kernel_rfl
@[simp] theorem tfld_55_3 : tfld Try.prog 55 3 = none := by kernel_rfl
@[simp] theorem tfld_55_4 : tfld Try.prog 55 4 = none := by kernel_rfl
@[simp] theorem tfld_55_5 : tfld Try.prog 55 5 = none := by kernel_rfl
@[simp] theorem tfld_55_6 : tfld Try.prog 55 6 = none := by kernel_rfl
@[simp] theorem tfld_55_7 : tfld Try.prog 55 7 = none := by kernel_rfl
@[simp] theorem tfld_55_8 : tfld Try.prog 55 8 = none := by kernel_rfl
@[simp] theorem tfld_55_9 : tfld Try.prog 55 9 = none := by kernel_rfl
@[simp] theorem tfld_55_10 : tfld Try.prog 55 10 = none := by kernel_rfl
@[simp] theorem tfld_55_11 : tfld Try.prog 55 11 = none := by kernel_rfl
@[simp] theorem tfld_55_12 : tfld Try.prog 55 12 = none := by kernel_rfl
@[simp] theorem tfld_55_13 : tfld Try.prog 55 13 = none := by kernel_rfl
@[simp] theorem tfld_55_14 : tfld Try.prog 55 14 = none := by kernel_rfl
@[simp] theorem tfld_55_15 : tfld Try.prog 55 15 = none := by kernel_rfl
@[simp] theorem tfld_55_16 : tfld Try.prog 55 16 = none := by kernel_rfl
@[simp] theorem tfld_55_17 : tfld Try.prog 55 17 = none := by kernel_rfl
@[simp] theorem tfld_55_18 : tfld Try.prog 55 18 = none := by kernel_rfl
@[simp] theorem tfld_55_19 : tfld Try.prog 55 19 = none := by kernel_rfl
@[simp] theorem tfld_55_20 : tfld Try.prog 55 20 = none := by kernel_rfl
@[simp] theorem tfld_55_21 : tfld Try.prog 55 21 = none := by kernel_rfl
@[simp] theorem tfld_55_22 : tfld Try.prog 55 22 = none := by kernel_rfl
@[simp] theorem tfld_55_23 : tfld Try.prog 55 23 = none := by kernel_rfl
@[simp] theorem tfld_55_24 : tfld Try.prog 55 24 = none := by kernel_rfl
@[simp] theorem tfld_55_25 : tfld Try.prog 55 25 = none := by kernel_rfl
@[simp] theorem tfld_55_26 : tfld Try.prog 55 26 = none := by kernel_rfl
@[simp] theorem tfld_55_27 : tfld Try.prog 55 27 = none := by kernel_rfl
@[simp] theorem tfld_55_28 : tfld Try.prog 55 28 = none := by kernel_rfl
@[simp] theorem tfld_55_29 : tfld Try.prog 55 29 = none := by kernel_rfl
@[simp] theorem tsz_56 : tsz Try.prog 56 = some 4 := by kernel_rfl
@[simp] theorem tagg_56 : tagg Try.prog 56 = some true := by kernel_rfl
@[simp] theorem tzero_56 : tzero Try.prog 56 = some (Value.agg { toList := [Value.pointer none, Value.pointer none, Value.pointer none, Value.string { data := { toList := [] } }] }) := by kernel_rfl
@[simp] theorem tplaces_56 : tplaces Try.prog 56 = some [(0, 1), (1, 1), (2, 1), (3, 1)] := by kernel_rfl
@[simp] theorem telem_56 : telem Try.prog 56 = none := by kernel_rfl
@[simp] theorem tint_56 : tint Try.prog 56 = none := by kernel_rfl
@[simp] theorem tfld_56_0 : tfld Try.prog 56 0 = some (0, 17) := by kernel_rfl
@[simp] theorem tfld_56_1 : tfld Try.prog 56 1 = some (1, 17) := by kernel_rfl
@[simp] theorem tfld_56_2 : tfld Try.prog 56 2 = some (2, 17) := by kernel_rfl
@[simp] theorem tfld_56_3 : tfld Try.prog 56 3 = some (3, 9) := by kernel_rfl
@[simp] theorem tfld_56_4 : tfld Try.prog 56 4 = none := by kernel_rfl
@[simp] theorem tfld_56_5 : tfld Try.prog 56 5 = none := by kernel_rfl
@[simp] theorem tfld_56_6 : tfld Try.prog 56 6 = none := by kernel_rfl
@[simp] theorem tfld_56_7 : tfld Try.prog 56 7 = none := by kernel_rfl
@[simp] theorem tfld_56_8 : tfld Try.prog 56 8 = none := by kernel_rfl
@[simp] theorem tfld_56_9 : tfld Try.prog 56 9 = none := by kernel_rfl
@[simp] theorem tfld_56_10 : tfld Try.prog 56 10 = none := by kernel_rfl
@[simp] theorem tfld_56_11 : tfld Try.prog 56 11 = none := by kernel_rfl
@[simp] theorem tfld_56_12 : tfld Try.prog 56 12 = none := by kernel_rfl
@[simp] theorem tfld_56_13 : tfld Try.prog 56 13 = none := by kernel_rfl
@[simp] theorem tfld_56_14 : tfld Try.prog 56 14 = none := by kernel_rfl
@[simp] theorem tfld_56_15 : tfld Try.prog 56 15 = none := by kernel_rfl
@[simp] theorem tfld_56_16 : tfld Try.prog 56 16 = none := by kernel_rfl
@[simp] theorem tfld_56_17 : tfld Try.prog 56 17 = none := by kernel_rfl
@[simp] theorem tfld_56_18 : tfld Try.prog 56 18 = none := by kernel_rfl
@[simp] theorem tfld_56_19 : tfld Try.prog 56 19 = none := by kernel_rfl
@[simp] theorem tfld_56_20 : tfld Try.prog 56 20 = none := by kernel_rfl
@[simp] theorem tfld_56_21 : tfld Try.prog 56 21 = none := by kernel_rfl
@[simp] theorem tfld_56_22 : tfld Try.prog 56 22 = none := by kernel_rfl
@[simp] theorem tfld_56_23 : tfld Try.prog 56 23 = none := by kernel_rfl
@[simp] theorem tfld_56_24 : tfld Try.prog 56 24 = none := by kernel_rfl
@[simp] theorem tfld_56_25 : tfld Try.prog 56 25 = none := by kernel_rfl
@[simp] theorem tfld_56_26 : tfld Try.prog 56 26 = none := by kernel_rfl
@[simp] theorem tfld_56_27 : tfld Try.prog 56 27 = none := by kernel_rfl
@[simp] theorem tfld_56_28 : tfld Try.prog 56 28 = none := by kernel_rfl
@[simp] theorem tfld_56_29 : tfld Try.prog 56 29 = none := by kernel_rfl
@[simp] theorem tsz_57 : tsz Try.prog 57 = some 4 := by kernel_rfl
@[simp] theorem tagg_57 : tagg Try.prog 57 = some true := by kernel_rfl
@[simp] theorem tzero_57 : tzero Try.prog 57 = some (Value.agg { toList := [Value.pointer none, Value.pointer none, Value.pointer none, Value.string { data := { toList := [] } }] }) := by kernel_rfl
@[simp] theorem tplaces_57 : tplaces Try.prog 57 = some [(0, 1), (1, 1), (2, 1), (3, 1)] := by kernel_rfl
@[simp] theorem telem_57 : telem Try.prog 57 = none := by kernel_rfl
@[simp] theorem tint_57 : tint Try.prog 57 = none := by kernel_rfl
@[simp] theorem tfld_57_0 : tfld Try.prog 57 0 = some (0, 17) := by kernel_rfl
@[simp] theorem tfld_57_1 : tfld Try.prog 57 1 = some (1, 17) := by kernel_rfl
@[simp] theorem tfld_57_2 : tfld Try.prog 57 2 = some (2, 17) := by kernel_rfl
@[simp] theorem tfld_57_3 : tfld Try.prog 57 3 = some (3, 9) := by kernel_rfl
@[simp] theorem tfld_57_4 : tfld Try.prog 57 4 = none := by kernel_rfl
@[simp] theorem tfld_57_5 : tfld Try.prog 57 5 = none := by kernel_rfl
@[simp] theorem tfld_57_6 : tfld Try.prog 57 6 = none := by kernel_rfl
@[simp] theorem tfld_57_7 : tfld Try.prog 57 7 = none := by kernel_rfl
@[simp] theorem tfld_57_8 : tfld Try.prog 57 8 = none := by kernel_rfl
@[simp] theorem tfld_57_9 : tfld Try.prog 57 9 = none := by kernel_rfl
@[simp] theorem tfld_57_10 : tfld Try.prog 57 10 = none := by kernel_rfl
@[simp] theorem tfld_57_11 : tfld Try.prog 57 11 = none := by kernel_rfl
@[simp] theorem tfld_57_12 : tfld Try.prog 57 12 = none := by kernel_rfl
@[simp] theorem tfld_57_13 : tfld Try.prog 57 13 = none := by kernel_rfl
@[simp] theorem tfld_57_14 : tfld Try.prog 57 14 = none := by kernel_rfl
@[simp] theorem tfld_57_15 : tfld Try.prog 57 15 = none := by kernel_rfl
@[simp] theorem tfld_57_16 : tfld Try.prog 57 16 = none := by kernel_rfl
@[simp] theorem tfld_57_17 : tfld Try.prog 57 17 = none := by kernel_rfl
@[simp] theorem tfld_57_18 : tfld Try.prog 57 18 = none := by kernel_rfl
@[simp] theorem tfld_57_19 : tfld Try.prog 57 19 = none := by kernel_rfl
@[simp] theorem tfld_57_20 : tfld Try.prog 57 20 = none := by kernel_rfl
@[simp] theorem tfld_57_21 : tfld Try.prog 57 21 = none := by kernel_rfl
@[simp] theorem tfld_57_22 : tfld Try.prog 57 22 = none := by kernel_rfl
@[simp] theorem tfld_57_23 : tfld Try.prog 57 23 = none := by kernel_rfl
@[simp] theorem tfld_57_24 : tfld Try.prog 57 24 = none := by kernel_rfl
@[simp] theorem tfld_57_25 : tfld Try.prog 57 25 = none := by kernel_rfl
@[simp] theorem tfld_57_26 : tfld Try.prog 57 26 = none := by kernel_rfl
@[simp] theorem tfld_57_27 : tfld Try.prog 57 27 = none := by kernel_rfl
@[simp] theorem tfld_57_28 : tfld Try.prog 57 28 = none := by kernel_rfl
@[simp] theorem tfld_57_29 : tfld Try.prog 57 29 = none := by kernel_rfl
@[simp] theorem tsz_58 : tsz Try.prog 58 = some 0 := by kernel_rfl
@[simp] theorem tagg_58 : tagg Try.prog 58 = some true := by kernel_rfl
@[simp] theorem tzero_58 : tzero Try.prog 58 = some (Value.agg { toList := [] }) := by kernel_rfl
@[simp] theorem tplaces_58 : tplaces Try.prog 58 = none := by kernel_rfl
@[simp] theorem telem_58 : telem Try.prog 58 = some (some 0, 16, 1) := by kernel_rfl
@[simp] theorem tint_58 : tint Try.prog 58 = none := by kernel_rfl
@[simp] theorem tfld_58_0 : tfld Try.prog 58 0 = none := by kernel_rfl
@[simp] theorem tfld_58_1 : tfld Try.prog 58 1 = none := by kernel_rfl
@[simp] theorem tfld_58_2 : tfld Try.prog 58 2 = none := by kernel_rfl
@[simp] theorem tfld_58_3 : tfld Try.prog 58 3 = none := by kernel_rfl
@[simp] theorem tfld_58_4 : tfld Try.prog 58 4 = none := by kernel_rfl
@[simp] theorem tfld_58_5 : tfld Try.prog 58 5 = none := by kernel_rfl
@[simp] theorem tfld_58_6 : tfld Try.prog 58 6 = none := by kernel_rfl
@[simp] theorem tfld_58_7 : tfld Try.prog 58 7 = none := by kernel_rfl
@[simp] theorem tfld_58_8 : tfld Try.prog 58 8 = none := by kernel_rfl
@[simp] theorem tfld_58_9 : tfld Try.prog 58 9 = none := by kernel_rfl
@[simp] theorem tfld_58_10 : tfld Try.prog 58 10 = none := by kernel_rfl
@[simp] theorem tfld_58_11 : tfld Try.prog 58 11 = none := by kernel_rfl
@[simp] theorem tfld_58_12 : tfld Try.prog 58 12 = none := by kernel_rfl
@[simp] theorem tfld_58_13 : tfld Try.prog 58 13 = none := by kernel_rfl
@[simp] theorem tfld_58_14 : tfld Try.prog 58 14 = none := by kernel_rfl
@[simp] theorem tfld_58_15 : tfld Try.prog 58 15 = none := by kernel_rfl
@[simp] theorem tfld_58_16 : tfld Try.prog 58 16 = none := by kernel_rfl
@[simp] theorem tfld_58_17 : tfld Try.prog 58 17 = none := by kernel_rfl
@[simp] theorem tfld_58_18 : tfld Try.prog 58 18 = none := by kernel_rfl
@[simp] theorem tfld_58_19 : tfld Try.prog 58 19 = none := by kernel_rfl
@[simp] theorem tfld_58_20 : tfld Try.prog 58 20 = none := by kernel_rfl
@[simp] theorem tfld_58_21 : tfld Try.prog 58 21 = none := by kernel_rfl
@[simp] theorem tfld_58_22 : tfld Try.prog 58 22 = none := by kernel_rfl
@[simp] theorem tfld_58_23 : tfld Try.prog 58 23 = none := by kernel_rfl
@[simp] theorem tfld_58_24 : tfld Try.prog 58 24 = none := by kernel_rfl
@[simp] theorem tfld_58_25 : tfld Try.prog 58 25 = none := by kernel_rfl
@[simp] theorem tfld_58_26 : tfld Try.prog 58 26 = none := by kernel_rfl
@[simp] theorem tfld_58_27 : tfld Try.prog 58 27 = none := by kernel_rfl
@[simp] theorem tfld_58_28 : tfld Try.prog 58 28 = none := by kernel_rfl
@[simp] theorem tfld_58_29 : tfld Try.prog 58 29 = none := by kernel_rfl
@[simp] theorem tsz_59 : tsz Try.prog 59 = some 0 := by kernel_rfl
@[simp] theorem tagg_59 : tagg Try.prog 59 = some true := by kernel_rfl
@[simp] theorem tzero_59 : tzero Try.prog 59 = some (Value.agg { toList := [] }) := by kernel_rfl
@[simp] theorem tplaces_59 : tplaces Try.prog 59 = some [(0, 0)] := by kernel_rfl
@[simp] theorem telem_59 : telem Try.prog 59 = none := by kernel_rfl
@[simp] theorem tint_59 : tint Try.prog 59 = none := by kernel_rfl
@[simp] theorem tfld_59_0 : tfld Try.prog 59 0 = some (0, 58) := by kernel_rfl
@[simp] theorem tfld_59_1 : tfld Try.prog 59 1 = none := by kernel_rfl
@[simp] theorem tfld_59_2 : tfld Try.prog 59 2 = none := by kernel_rfl
@[simp] theorem tfld_59_3 : tfld Try.prog 59 3 = none := by kernel_rfl
@[simp] theorem tfld_59_4 : tfld Try.prog 59 4 = none := by kernel_rfl
@[simp] theorem tfld_59_5 : tfld Try.prog 59 5 = none := by kernel_rfl
@[simp] theorem tfld_59_6 : tfld Try.prog 59 6 = none := by kernel_rfl
@[simp] theorem tfld_59_7 : tfld Try.prog 59 7 = none := by kernel_rfl
@[simp] theorem tfld_59_8 : tfld Try.prog 59 8 = none := by kernel_rfl
@[simp] theorem tfld_59_9 : tfld Try.prog 59 9 = none := by kernel_rfl
@[simp] theorem tfld_59_10 : tfld Try.prog 59 10 = none := by kernel_rfl
@[simp] theorem tfld_59_11 : tfld Try.prog 59 11 = none := by kernel_rfl
@[simp] theorem tfld_59_12 : tfld Try.prog 59 12 = none := by kernel_rfl
@[simp] theorem tfld_59_13 : tfld Try.prog 59 13 = none := by kernel_rfl
@[simp] theorem tfld_59_14 : tfld Try.prog 59 14 = none := by kernel_rfl
@[simp] theorem tfld_59_15 : tfld Try.prog 59 15 = none := by kernel_rfl
@[simp] theorem tfld_59_16 : tfld Try.prog 59 16 = none := by kernel_rfl
@[simp] theorem tfld_59_17 : tfld Try.prog 59 17 = none := by kernel_rfl
@[simp] theorem tfld_59_18 : tfld Try.prog 59 18 = none := by kernel_rfl
@[simp] theorem tfld_59_19 : tfld Try.prog 59 19 = none := by kernel_rfl
@[simp] theorem tfld_59_20 : tfld Try.prog 59 20 = none := by kernel_rfl
@[simp] theorem tfld_59_21 : tfld Try.prog 59 21 = none := by kernel_rfl
@[simp] theorem tfld_59_22 : tfld Try.prog 59 22 = none := by kernel_rfl
@[simp] theorem tfld_59_23 : tfld Try.prog 59 23 = none := by kernel_rfl
@[simp] theorem tfld_59_24 : tfld Try.prog 59 24 = none := by kernel_rfl
@[simp] theorem tfld_59_25 : tfld Try.prog 59 25 = none := by kernel_rfl
@[simp] theorem tfld_59_26 : tfld Try.prog 59 26 = none := by kernel_rfl
@[simp] theorem tfld_59_27 : tfld Try.prog 59 27 = none := by kernel_rfl
@[simp] theorem tfld_59_28 : tfld Try.prog 59 28 = none := by kernel_rfl
@[simp] theorem tfld_59_29 : tfld Try.prog 59 29 = none := by kernel_rfl
@[simp] theorem tsz_60 : tsz Try.prog 60 = some 0 := by kernel_rfl
@[simp] theorem tagg_60 : tagg Try.prog 60 = some true := by kernel_rfl
@[simp] theorem tzero_60 : tzero Try.prog 60 = some (Value.agg { toList := [] }) := by kernel_rfl
@[simp] theorem tplaces_60 : tplaces Try.prog 60 = some [(0, 0)] := by kernel_rfl
@[simp] theorem telem_60 : telem Try.prog 60 = none := by kernel_rfl
@[simp] theorem tint_60 : tint Try.prog 60 = none := by kernel_rfl
@[simp] theorem tfld_60_0 : tfld Try.prog 60 0 = some (0, 58) := by kernel_rfl
@[simp] theorem tfld_60_1 : tfld Try.prog 60 1 = none := by kernel_rfl
@[simp] theorem tfld_60_2 : tfld Try.prog 60 2 = none := by kernel_rfl
@[simp] theorem tfld_60_3 : tfld Try.prog 60 3 = none := by kernel_rfl
@[simp] theorem tfld_60_4 : tfld Try.prog 60 4 = none := by kernel_rfl
@[simp] theorem tfld_60_5 : tfld Try.prog 60 5 = none := by kernel_rfl
@[simp] theorem tfld_60_6 : tfld Try.prog 60 6 = none := by kernel_rfl
@[simp] theorem tfld_60_7 : tfld Try.prog 60 7 = none := by kernel_rfl
@[simp] theorem tfld_60_8 : tfld Try.prog 60 8 = none := by kernel_rfl
@[simp] theorem tfld_60_9 : tfld Try.prog 60 9 = none := by kernel_rfl
@[simp] theorem tfld_60_10 : tfld Try.prog 60 10 = none := by kernel_rfl
@[simp] theorem tfld_60_11 : tfld Try.prog 60 11 = none := by kernel_rfl
@[simp] theorem tfld_60_12 : tfld Try.prog 60 12 = none := by kernel_rfl
@[simp] theorem tfld_60_13 : tfld Try.prog 60 13 = none := by kernel_rfl
@[simp] theorem tfld_60_14 : tfld Try.prog 60 14 = none := by kernel_rfl
@[simp] theorem tfld_60_15 : tfld Try.prog 60 15 = none := by kernel_rfl
@[simp] theorem tfld_60_16 : tfld Try.prog 60 16 = none := by kernel_rfl
@[simp] theorem tfld_60_17 : tfld Try.prog 60 17 = none := by kernel_rfl
@[simp] theorem tfld_60_18 : tfld Try.prog 60 18 = none := by kernel_rfl
@[simp] theorem tfld_60_19 : tfld Try.prog 60 19 = none := by kernel_rfl
@[simp] theorem tfld_60_20 : tfld Try.prog 60 20 = none := by kernel_rfl
@[simp] theorem tfld_60_21 : tfld Try.prog 60 21 = none := by kernel_rfl
@[simp] theorem tfld_60_22 : tfld Try.prog 60 22 = none := by kernel_rfl
@[simp] theorem tfld_60_23 : tfld Try.prog 60 23 = none := by kernel_rfl
@[simp] theorem tfld_60_24 : tfld Try.prog 60 24 = none := by kernel_rfl
@[simp] theorem tfld_60_25 : tfld Try.prog 60 25 = none := by kernel_rfl
@[simp] theorem tfld_60_26 : tfld Try.prog 60 26 = none := by kernel_rfl
@[simp] theorem tfld_60_27 : tfld Try.prog 60 27 = none := by kernel_rfl
@[simp] theorem tfld_60_28 : tfld Try.prog 60 28 = none := by kernel_rfl
@[simp] theorem tfld_60_29 : tfld Try.prog 60 29 = none := by kernel_rfl
@[simp] theorem tsz_61 : tsz Try.prog 61 = some 1 := by kernel_rfl
@[simp] theorem tagg_61 : tagg Try.prog 61 = some false := by kernel_rfl
@[simp] theorem tzero_61 : tzero Try.prog 61 = some Value.nilFunc := by kernel_rfl
@[simp] theorem tplaces_61 : tplaces Try.prog 61 = none := by kernel_rfl
@[simp] theorem telem_61 : telem Try.prog 61 = none := by kernel_rfl
@[simp] theorem tint_61 : tint Try.prog 61 = none := by kernel_rfl
@[simp] theorem tfld_61_0 : tfld Try.prog 61 0 = none := by kernel_rfl
@[simp] theorem tfld_61_1 : tfld Try.prog 61 1 = none := by kernel_rfl
@[simp] theorem tfld_61_2 : tfld Try.prog 61 2 = none := by kernel_rfl
@[simp] theorem tfld_61_3 : tfld Try.prog 61 3 = none := by kernel_rfl
@[simp] theorem tfld_61_4 : tfld Try.prog 61 4 = none := by kernel_rfl
@[simp] theorem tfld_61_5 : tfld Try.prog 61 5 = none := by kernel_rfl
@[simp] theorem tfld_61_6 : tfld Try.prog 61 6 = none := by kernel_rfl
@[simp] theorem tfld_61_7 : tfld Try.prog 61 7 = none := by kernel_rfl
@[simp] theorem tfld_61_8 : tfld Try.prog 61 8 = none := by kernel_rfl
@[simp] theorem tfld_61_9 : tfld Try.prog 61 9 = none := by kernel_rfl
@[simp] theorem tfld_61_10 : tfld Try.prog 61 10 = none := by kernel_rfl
@[simp] theorem tfld_61_11 : tfld Try.prog 61 11 = none := by kernel_rfl
@[simp] theorem tfld_61_12 : tfld Try.prog 61 12 = none := by kernel_rfl
@[simp] theorem tfld_61_13 : tfld Try.prog 61 13 = none := by kernel_rfl
@[simp] theorem tfld_61_14 : tfld Try.prog 61 14 = none := by kernel_rfl
@[simp] theorem tfld_61_15 : tfld Try.prog 61 15 = none := by kernel_rfl
@[simp] theorem tfld_61_16 : tfld Try.prog 61 16 = none := by kernel_rfl
@[simp] theorem tfld_61_17 : tfld Try.prog 61 17 = none := by kernel_rfl
@[simp] theorem tfld_61_18 : tfld Try.prog 61 18 = none := by kernel_rfl
@[simp] theorem tfld_61_19 : tfld Try.prog 61 19 = none := by kernel_rfl
@[simp] theorem tfld_61_20 : tfld Try.prog 61 20 = none := by kernel_rfl
@[simp] theorem tfld_61_21 : tfld Try.prog 61 21 = none := by kernel_rfl
@[simp] theorem tfld_61_22 : tfld Try.prog 61 22 = none := by kernel_rfl
@[simp] theorem tfld_61_23 : tfld Try.prog 61 23 = none := by kernel_rfl
@[simp] theorem tfld_61_24 : tfld Try.prog 61 24 = none := by kernel_rfl
@[simp] theorem tfld_61_25 : tfld Try.prog 61 25 = none := by kernel_rfl
@[simp] theorem tfld_61_26 : tfld Try.prog 61 26 = none := by kernel_rfl
@[simp] theorem tfld_61_27 : tfld Try.prog 61 27 = none := by kernel_rfl
@[simp] theorem tfld_61_28 : tfld Try.prog 61 28 = none := by kernel_rfl
@[simp] theorem tfld_61_29 : tfld Try.prog 61 29 = none := by kernel_rfl
@[simp] theorem tsz_62 : tsz Try.prog 62 = some 1 := by kernel_rfl
@[simp] theorem tagg_62 : tagg Try.prog 62 = some false := by kernel_rfl
@[simp] theorem tzero_62 : tzero Try.prog 62 = some (Value.int IntKind.u32 (Int.ofNat 0)) := by kernel_rfl
@[simp] theorem tplaces_62 : tplaces Try.prog 62 = none := by kernel_rfl
@[simp] theorem telem_62 : telem Try.prog 62 = none := by kernel_rfl
@[simp] theorem tint_62 : tint Try.prog 62 = some IntKind.u32 := by kernel_rfl
@[simp] theorem tfld_62_0 : tfld Try.prog 62 0 = none := by kernel_rfl
@[simp] theorem tfld_62_1 : tfld Try.prog 62 1 = none := by kernel_rfl
@[simp] theorem tfld_62_2 : tfld Try.prog 62 2 = none := by kernel_rfl
@[simp] theorem tfld_62_3 : tfld Try.prog 62 3 = none := by kernel_rfl
@[simp] theorem tfld_62_4 : tfld Try.prog 62 4 = none := by kernel_rfl
@[simp] theorem tfld_62_5 : tfld Try.prog 62 5 = none := by kernel_rfl
@[simp] theorem tfld_62_6 : tfld Try.prog 62 6 = none := by kernel_rfl
@[simp] theorem tfld_62_7 : tfld Try.prog 62 7 = none := by kernel_rfl
@[simp] theorem tfld_62_8 : tfld Try.prog 62 8 = none := by kernel_rfl
@[simp] theorem tfld_62_9 : tfld Try.prog 62 9 = none := by kernel_rfl
@[simp] theorem tfld_62_10 : tfld Try.prog 62 10 = none := by kernel_rfl
@[simp] theorem tfld_62_11 : tfld Try.prog 62 11 = none := by kernel_rfl
@[simp] theorem tfld_62_12 : tfld Try.prog 62 12 = none := by kernel_rfl
@[simp] theorem tfld_62_13 : tfld Try.prog 62 13 = none := by kernel_rfl
@[simp] theorem tfld_62_14 : tfld Try.prog 62 14 = none := by kernel_rfl
@[simp] theorem tfld_62_15 : tfld Try.prog 62 15 = none := by kernel_rfl
@[simp] theorem tfld_62_16 : tfld Try.prog 62 16 = none := by kernel_rfl
@[simp] theorem tfld_62_17 : tfld Try.prog 62 17 = none := by kernel_rfl
@[simp] theorem tfld_62_18 : tfld Try.prog 62 18 = none := by kernel_rfl
@[simp] theorem tfld_62_19 : tfld Try.prog 62 19 = none := by kernel_rfl
@[simp] theorem tfld_62_20 : tfld Try.prog 62 20 = none := by kernel_rfl
@[simp] theorem tfld_62_21 : tfld Try.prog 62 21 = none := by kernel_rfl
@[simp] theorem tfld_62_22 : tfld Try.prog 62 22 = none := by kernel_rfl
@[simp] theorem tfld_62_23 : tfld Try.prog 62 23 = none := by kernel_rfl
@[simp] theorem tfld_62_24 : tfld Try.prog 62 24 = none := by kernel_rfl
@[simp] theorem tfld_62_25 : tfld Try.prog 62 25 = none := by kernel_rfl
@[simp] theorem tfld_62_26 : tfld Try.prog 62 26 = none := by kernel_rfl
@[simp] theorem tfld_62_27 : tfld Try.prog 62 27 = none := by kernel_rfl
@[simp] theorem tfld_62_28 : tfld Try.prog 62 28 = none := by kernel_rfl
@[simp] theorem tfld_62_29 : tfld Try.prog 62 29 = none := by kernel_rfl
@[simp] theorem tsz_63 : tsz Try.prog 63 = some 1 := by kernel_rfl
@[simp] theorem tagg_63 : tagg Try.prog 63 = some false := by kernel_rfl
@[simp] theorem tzero_63 : tzero Try.prog 63 = some (Value.int IntKind.u8 (Int.ofNat 0)) := by kernel_rfl
@[simp] theorem tplaces_63 : tplaces Try.prog 63 = none := by kernel_rfl
@[simp] theorem telem_63 : telem Try.prog 63 = none := by kernel_rfl
@[simp] theorem tint_63 : tint Try.prog 63 = some IntKind.u8 := by kernel_rfl
@[simp] theorem tfld_63_0 : tfld Try.prog 63 0 = none := by kernel_rfl
@[simp] theorem tfld_63_1 : tfld Try.prog 63 1 = none := by kernel_rfl
@[simp] theorem tfld_63_2 : tfld Try.prog 63 2 = none := by kernel_rfl
@[simp] theorem tfld_63_3 : tfld Try.prog 63 3 = none := by kernel_rfl
@[simp] theorem tfld_63_4 : tfld Try.prog 63 4 = none := by kernel_rfl
@[simp] theorem tfld_63_5 : tfld Try.prog 63 5 = none := by kernel_rfl
@[simp] theorem tfld_63_6 : tfld Try.prog 63 6 = none := by kernel_rfl
@[simp] theorem tfld_63_7 : tfld Try.prog 63 7 = none := by kernel_rfl
@[simp] theorem tfld_63_8 : tfld Try.prog 63 8 = none := by kernel_rfl
@[simp] theorem tfld_63_9 : tfld Try.prog 63 9 = none := by kernel_rfl
@[simp] theorem tfld_63_10 : tfld Try.prog 63 10 = none := by kernel_rfl
@[simp] theorem tfld_63_11 : tfld Try.prog 63 11 = none := by kernel_rfl
@[simp] theorem tfld_63_12 : tfld Try.prog 63 12 = none := by kernel_rfl
@[simp] theorem tfld_63_13 : tfld Try.prog 63 13 = none := by kernel_rfl
@[simp] theorem tfld_63_14 : tfld Try.prog 63 14 = none := by kernel_rfl
@[simp] theorem tfld_63_15 : tfld Try.prog 63 15 = none := by kernel_rfl
@[simp] theorem tfld_63_16 : tfld Try.prog 63 16 = none := by kernel_rfl
@[simp] theorem tfld_63_17 : tfld Try.prog 63 17 = none := by kernel_rfl
@[simp] theorem tfld_63_18 : tfld Try.prog 63 18 = none := by kernel_rfl
@[simp] theorem tfld_63_19 : tfld Try.prog 63 19 = none := by kernel_rfl
@[simp] theorem tfld_63_20 : tfld Try.prog 63 20 = none := by kernel_rfl
@[simp] theorem tfld_63_21 : tfld Try.prog 63 21 = none := by kernel_rfl
@[simp] theorem tfld_63_22 : tfld Try.prog 63 22 = none := by kernel_rfl
@[simp] theorem tfld_63_23 : tfld Try.prog 63 23 = none := by kernel_rfl
@[simp] theorem tfld_63_24 : tfld Try.prog 63 24 = none := by kernel_rfl
@[simp] theorem tfld_63_25 : tfld Try.prog 63 25 = none := by kernel_rfl
@[simp] theorem tfld_63_26 : tfld Try.prog 63 26 = none := by kernel_rfl
@[simp] theorem tfld_63_27 : tfld Try.prog 63 27 = none := by kernel_rfl
@[simp] theorem tfld_63_28 : tfld Try.prog 63 28 = none := by kernel_rfl
@[simp] theorem tfld_63_29 : tfld Try.prog 63 29 = none := by kernel_rfl
@[simp] theorem tsz_64 : tsz Try.prog 64 = some 1 := by kernel_rfl
@[simp] theorem tagg_64 : tagg Try.prog 64 = some false := by kernel_rfl
@[simp] theorem tzero_64 : tzero Try.prog 64 = some (Value.int IntKind.u8 (Int.ofNat 0)) := by kernel_rfl
@[simp] theorem tplaces_64 : tplaces Try.prog 64 = none := by kernel_rfl
@[simp] theorem telem_64 : telem Try.prog 64 = none := by kernel_rfl
@[simp] theorem tint_64 : tint Try.prog 64 = some IntKind.u8 := by kernel_rfl
@[simp] theorem tfld_64_0 : tfld Try.prog 64 0 = none := by kernel_rfl
@[simp] theorem tfld_64_1 : tfld Try.prog 64 1 = none := by kernel_rfl
@[simp] theorem tfld_64_2 : tfld Try.prog 64 2 = none := by kernel_rfl
@[simp] theorem tfld_64_3 : tfld Try.prog 64 3 = none := by kernel_rfl
@[simp] theorem tfld_64_4 : tfld Try.prog 64 4 = none := by kernel_rfl
@[simp] theorem tfld_64_5 : tfld Try.prog 64 5 = none := by kernel_rfl
@[simp] theorem tfld_64_6 : tfld Try.prog 64 6 = none := by kernel_rfl
@[simp] theorem tfld_64_7 : tfld Try.prog 64 7 = none := by kernel_rfl
@[simp] theorem tfld_64_8 : tfld Try.prog 64 8 = none := by kernel_rfl
@[simp] theorem tfld_64_9 : tfld Try.prog 64 9 = none := by kernel_rfl
@[simp] theorem tfld_64_10 : tfld Try.prog 64 10 = none := by kernel_rfl
@[simp] theorem tfld_64_11 : tfld Try.prog 64 11 = none := by kernel_rfl
@[simp] theorem tfld_64_12 : tfld Try.prog 64 12 = none := by kernel_rfl
@[simp] theorem tfld_64_13 : tfld Try.prog 64 13 = none := by kernel_rfl
@[simp] theorem tfld_64_14 : tfld Try.prog 64 14 = none := by kernel_rfl
@[simp] theorem tfld_64_15 : tfld Try.prog 64 15 = none := by kernel_rfl
@[simp] theorem tfld_64_16 : tfld Try.prog 64 16 = none := by kernel_rfl
@[simp] theorem tfld_64_17 : tfld Try.prog 64 17 = none := by kernel_rfl
@[simp] theorem tfld_64_18 : tfld Try.prog 64 18 = none := by kernel_rfl
@[simp] theorem tfld_64_19 : tfld Try.prog 64 19 = none := by kernel_rfl
@[simp] theorem tfld_64_20 : tfld Try.prog 64 20 = none := by kernel_rfl
@[simp] theorem tfld_64_21 : tfld Try.prog 64 21 = none := by kernel_rfl
@[simp] theorem tfld_64_22 : tfld Try.prog 64 22 = none := by kernel_rfl
@[simp] theorem tfld_64_23 : tfld Try.prog 64 23 = none := by kernel_rfl
@[simp] theorem tfld_64_24 : tfld Try.prog 64 24 = none := by kernel_rfl
@[simp] theorem tfld_64_25 : tfld Try.prog 64 25 = none := by kernel_rfl
@[simp] theorem tfld_64_26 : tfld Try.prog 64 26 = none := by kernel_rfl
@[simp] theorem tfld_64_27 : tfld Try.prog 64 27 = none := by kernel_rfl
@[simp] theorem tfld_64_28 : tfld Try.prog 64 28 = none := by kernel_rfl
@[simp] theorem tfld_64_29 : tfld Try.prog 64 29 = none := by kernel_rfl
@[simp] theorem tsz_65 : tsz Try.prog 65 = some 1 := by kernel_rfl
@[simp] theorem tagg_65 : tagg Try.prog 65 = some false := by kernel_rfl
@[simp] theorem tzero_65 : tzero Try.prog 65 = some Value.nilFunc := by kernel_rfl
@[simp] theorem tplaces_65 : tplaces Try.prog 65 = none := by kernel_rfl
@[simp] theorem telem_65 : telem Try.prog 65 = none := by kernel_rfl
@[simp] theorem tint_65 : tint Try.prog 65 = none := by kernel_rfl
@[simp] theorem tfld_65_0 : tfld Try.prog 65 0 = none := by kernel_rfl
@[simp] theorem tfld_65_1 : tfld Try.prog 65 1 = none := by kernel_rfl
@[simp] theorem tfld_65_2 : tfld Try.prog 65 2 = none := by kernel_rfl
@[simp] theorem tfld_65_3 : tfld Try.prog 65 3 = none := by kernel_rfl
@[simp] theorem tfld_65_4 : tfld Try.prog 65 4 = none := by kernel_rfl
@[simp] theorem tfld_65_5 : tfld Try.prog 65 5 = none := by kernel_rfl
@[simp] theorem tfld_65_6 : tfld Try.prog 65 6 = none := by kernel_rfl
@[simp] theorem tfld_65_7 : tfld Try.prog 65 7 = none := by kernel_rfl
@[simp] theorem tfld_65_8 : tfld Try.prog 65 8 = none := by kernel_rfl
@[simp] theorem tfld_65_9 : tfld Try.prog 65 9 = none := by kernel_rfl
@[simp] theorem tfld_65_10 : tfld Try.prog 65 10 = none := by kernel_rfl
@[simp] theorem tfld_65_11 : tfld Try.prog 65 11 = none := by kernel_rfl
@[simp] theorem tfld_65_12 : tfld Try.prog 65 12 = none := by kernel_rfl
@[simp] theorem tfld_65_13 : tfld Try.prog 65 13 = none := by kernel_rfl
@[simp] theorem tfld_65_14 : tfld Try.prog 65 14 = none := by kernel_rfl
@[simp] theorem tfld_65_15 : tfld Try.prog 65 15 = none := by kernel_rfl
@[simp] theorem tfld_65_16 : tfld Try.prog 65 16 = none := by kernel_rfl
@[simp] theorem tfld_65_17 : tfld Try.prog 65 17 = none := by kernel_rfl
@[simp] theorem tfld_65_18 : tfld Try.prog 65 18 = none := by kernel_rfl
@[simp] theorem tfld_65_19 : tfld Try.prog 65 19 = none := by kernel_rfl
@[simp] theorem tfld_65_20 : tfld Try.prog 65 20 = none := by kernel_rfl
@[simp] theorem tfld_65_21 : tfld Try.prog 65 21 = none := by kernel_rfl
@[simp] theorem tfld_65_22 : tfld Try.prog 65 22 = none := by kernel_rfl
@[simp] theorem tfld_65_23 : tfld Try.prog 65 23 = none := by kernel_rfl
@[simp] theorem tfld_65_24 : tfld Try.prog 65 24 = none := by kernel_rfl
@[simp] theorem tfld_65_25 : tfld Try.prog 65 25 = none := by kernel_rfl
@[simp] theorem tfld_65_26 : tfld Try.prog 65 26 = none := by kernel_rfl
@[simp] theorem tfld_65_27 : tfld Try.prog 65 27 = none := by kernel_rfl
@[simp] theorem tfld_65_28 : tfld Try.prog 65 28 = none := by kernel_rfl
@[simp] theorem tfld_65_29 : tfld Try.prog 65 29 = none := by kernel_rfl
@[simp] theorem tsz_66 : tsz Try.prog 66 = some 1 := by kernel_rfl
@[simp] theorem tagg_66 : tagg Try.prog 66 = some false := by kernel_rfl
@[simp] theorem tzero_66 : tzero Try.prog 66 = some (Value.pointer none) := by kernel_rfl
@[simp] theorem tplaces_66 : tplaces Try.prog 66 = none := by kernel_rfl
@[simp] theorem telem_66 : telem Try.prog 66 = none := by kernel_rfl
@[simp] theorem tint_66 : tint Try.prog 66 = none := by kernel_rfl
@[simp] theorem tfld_66_0 : tfld Try.prog 66 0 = none := by kernel_rfl
@[simp] theorem tfld_66_1 : tfld Try.prog 66 1 = none := by kernel_rfl
@[simp] theorem tfld_66_2 : tfld Try.prog 66 2 = none := by kernel_rfl
@[simp] theorem tfld_66_3 : tfld Try.prog 66 3 = none := by kernel_rfl
@[simp] theorem tfld_66_4 : tfld Try.prog 66 4 = none := by kernel_rfl
@[simp] theorem tfld_66_5 : tfld Try.prog 66 5 = none := by kernel_rfl
@[simp] theorem tfld_66_6 : tfld Try.prog 66 6 = none := by kernel_rfl
@[simp] theorem tfld_66_7 : tfld Try.prog 66 7 = none := by kernel_rfl
@[simp] theorem tfld_66_8 : tfld Try.prog 66 8 = none := by kernel_rfl
@[simp] theorem tfld_66_9 : tfld Try.prog 66 9 = none := by kernel_rfl
@[simp] theorem tfld_66_10 : tfld Try.prog 66 10 = none := by kernel_rfl
@[simp] theorem tfld_66_11 : tfld Try.prog 66 11 = none := by kernel_rfl
@[simp] theorem tfld_66_12 : tfld Try.prog 66 12 = none := by kernel_rfl
@[simp] theorem tfld_66_13 : tfld Try.prog 66 13 = none := by kernel_rfl
@[simp] theorem tfld_66_14 : tfld Try.prog 66 14 = none := by kernel_rfl
@[simp] theorem tfld_66_15 : tfld Try.prog 66 15 = none := by kernel_rfl
@[simp] theorem tfld_66_16 : tfld Try.prog 66 16 = none := by kernel_rfl
@[simp] theorem tfld_66_17 : tfld Try.prog 66 17 = none := by kernel_rfl
@[simp] theorem tfld_66_18 : tfld Try.prog 66 18 = none := by kernel_rfl
@[simp] theorem tfld_66_19 : tfld Try.prog 66 19 = none := by kernel_rfl
@[simp] theorem tfld_66_20 : tfld Try.prog 66 20 = none := by kernel_rfl
@[simp] theorem tfld_66_21 : tfld Try.prog 66 21 = none := by kernel_rfl
@[simp] theorem tfld_66_22 : tfld Try.prog 66 22 = none := by kernel_rfl
@[simp] theorem tfld_66_23 : tfld Try.prog 66 23 = none := by kernel_rfl
@[simp] theorem tfld_66_24 : tfld Try.prog 66 24 = none := by kernel_rfl
@[simp] theorem tfld_66_25 : tfld Try.prog 66 25 = none := by kernel_rfl
@[simp] theorem tfld_66_26 : tfld Try.prog 66 26 = none := by kernel_rfl
@[simp] theorem tfld_66_27 : tfld Try.prog 66 27 = none := by kernel_rfl
@[simp] theorem tfld_66_28 : tfld Try.prog 66 28 = none := by kernel_rfl
@[simp] theorem tfld_66_29 : tfld Try.prog 66 29 = none := by kernel_rfl
@[simp] theorem tsz_67 : tsz Try.prog 67 = some 1 := by kernel_rfl
@[simp] theorem tagg_67 : tagg Try.prog 67 = some false := by kernel_rfl
@[simp] theorem tzero_67 : tzero Try.prog 67 = some (Value.int IntKind.i32 (Int.ofNat 0)) := by kernel_rfl
@[simp] theorem tplaces_67 : tplaces Try.prog 67 = none := by kernel_rfl
@[simp] theorem telem_67 : telem Try.prog 67 = none := by kernel_rfl
@[simp] theorem tint_67 : tint Try.prog 67 = some IntKind.i32 := by kernel_rfl
@[simp] theorem tfld_67_0 : tfld Try.prog 67 0 = none := by kernel_rfl
@[simp] theorem tfld_67_1 : tfld Try.prog 67 1 = none := by kernel_rfl
@[simp] theorem tfld_67_2 : tfld Try.prog 67 2 = none := by kernel_rfl
@[simp] theorem tfld_67_3 : tfld Try.prog 67 3 = none := by kernel_rfl
@[simp] theorem tfld_67_4 : tfld Try.prog 67 4 = none := by kernel_rfl
@[simp] theorem tfld_67_5 : tfld Try.prog 67 5 = none := by kernel_rfl
@[simp] theorem tfld_67_6 : tfld Try.prog 67 6 = none := by kernel_rfl
@[simp] theorem tfld_67_7 : tfld Try.prog 67 7 = none := by kernel_rfl
@[simp] theorem tfld_67_8 : tfld Try.prog 67 8 = none := by kernel_rfl
@[simp] theorem tfld_67_9 : tfld Try.prog 67 9 = none := by kernel_rfl
@[simp] theorem tfld_67_10 : tfld Try.prog 67 10 = none := by kernel_rfl
@[simp] theorem tfld_67_11 : tfld Try.prog 67 11 = none := by kernel_rfl
@[simp] theorem tfld_67_12 : tfld Try.prog 67 12 = none := by kernel_rfl
@[simp] theorem tfld_67_13 : tfld Try.prog 67 13 = none := by kernel_rfl
@[simp] theorem tfld_67_14 : tfld Try.prog 67 14 = none := by kernel_rfl
@[simp] theorem tfld_67_15 : tfld Try.prog 67 15 = none := by kernel_rfl
@[simp] theorem tfld_67_16 : tfld Try.prog 67 16 = none := by kernel_rfl
@[simp] theorem tfld_67_17 : tfld Try.prog 67 17 = none := by kernel_rfl
@[simp] theorem tfld_67_18 : tfld Try.prog 67 18 = none := by kernel_rfl
@[simp] theorem tfld_67_19 : tfld Try.prog 67 19 = none := by kernel_rfl
@[simp] theorem tfld_67_20 : tfld Try.prog 67 20 = none := by kernel_rfl
@[simp] theorem tfld_67_21 : tfld Try.prog 67 21 = none := by kernel_rfl
@[simp] theorem tfld_67_22 : tfld Try.prog 67 22 = none := by kernel_rfl
@[simp] theorem tfld_67_23 : tfld Try.prog 67 23 = none := by kernel_rfl
@[simp] theorem tfld_67_24 : tfld Try.prog 67 24 = none := by kernel_rfl
@[simp] theorem tfld_67_25 : tfld Try.prog 67 25 = none := by kernel_rfl
@[simp] theorem tfld_67_26 : tfld Try.prog 67 26 = none := by kernel_rfl
@[simp] theorem tfld_67_27 : tfld Try.prog 67 27 = none := by kernel_rfl
@[simp] theorem tfld_67_28 : tfld Try.prog 67 28 = none := by kernel_rfl
@[simp] theorem tfld_67_29 : tfld Try.prog 67 29 = none := by kernel_rfl
@[simp] theorem tsz_68 : tsz Try.prog 68 = some 1 := by kernel_rfl
@[simp] theorem tagg_68 : tagg Try.prog 68 = some false := by kernel_rfl
@[simp] theorem tzero_68 : tzero Try.prog 68 = some (Value.int IntKind.i32 (Int.ofNat 0)) := by kernel_rfl
@[simp] theorem tplaces_68 : tplaces Try.prog 68 = none := by kernel_rfl
@[simp] theorem telem_68 : telem Try.prog 68 = none := by kernel_rfl
@[simp] theorem tint_68 : tint Try.prog 68 = some IntKind.i32 := by kernel_rfl
@[simp] theorem tfld_68_0 : tfld Try.prog 68 0 = none := by kernel_rfl
@[simp] theorem tfld_68_1 : tfld Try.prog 68 1 = none := by kernel_rfl
@[simp] theorem tfld_68_2 : tfld Try.prog 68 2 = none := by kernel_rfl
@[simp] theorem tfld_68_3 : tfld Try.prog 68 3 = none := by kernel_rfl
@[simp] theorem tfld_68_4 : tfld Try.prog 68 4 = none := by kernel_rfl
@[simp] theorem tfld_68_5 : tfld Try.prog 68 5 = none := by kernel_rfl
@[simp] theorem tfld_68_6 : tfld Try.prog 68 6 = none := by kernel_rfl
@[simp] theorem tfld_68_7 : tfld Try.prog 68 7 = none := by kernel_rfl
@[simp] theorem tfld_68_8 : tfld Try.prog 68 8 = none := by kernel_rfl
@[simp] theorem tfld_68_9 : tfld Try.prog 68 9 = none := by kernel_rfl
@[simp] theorem tfld_68_10 : tfld Try.prog 68 10 = none := by kernel_rfl
@[simp] theorem tfld_68_11 : tfld Try.prog 68 11 = none := by kernel_rfl
@[simp] theorem tfld_68_12 : tfld Try.prog 68 12 = none := by kernel_rfl
@[simp] theorem tfld_68_13 : tfld Try.prog 68 13 = none := by kernel_rfl
@[simp] theorem tfld_68_14 : tfld Try.prog 68 14 = none := by kernel_rfl
@[simp] theorem tfld_68_15 : tfld Try.prog 68 15 = none := by kernel_rfl
@[simp] theorem tfld_68_16 : tfld Try.prog 68 16 = none := by kernel_rfl
@[simp] theorem tfld_68_17 : tfld Try.prog 68 17 = none := by kernel_rfl
@[simp] theorem tfld_68_18 : tfld Try.prog 68 18 = none := by kernel_rfl
@[simp] theorem tfld_68_19 : tfld Try.prog 68 19 = none := by kernel_rfl
@[simp] theorem tfld_68_20 : tfld Try.prog 68 20 = none := by kernel_rfl
@[simp] theorem tfld_68_21 : tfld Try.prog 68 21 = none := by kernel_rfl
@[simp] theorem tfld_68_22 : tfld Try.prog 68 22 = none := by kernel_rfl
@[simp] theorem tfld_68_23 : tfld Try.prog 68 23 = none := by kernel_rfl
@[simp] theorem tfld_68_24 : tfld Try.prog 68 24 = none := by kernel_rfl
@[simp] theorem tfld_68_25 : tfld Try.prog 68 25 = none := by kernel_rfl
@[simp] theorem tfld_68_26 : tfld Try.prog 68 26 = none := by kernel_rfl
@[simp] theorem tfld_68_27 : tfld Try.prog 68 27 = none := by kernel_rfl
@[simp] theorem tfld_68_28 : tfld Try.prog 68 28 = none := by kernel_rfl
@[simp] theorem tfld_68_29 : tfld Try.prog 68 29 = none := by kernel_rfl
@[simp] theorem tsz_69 : tsz Try.prog 69 = some 11 := by kernel_rfl
@[simp] theorem tagg_69 : tagg Try.prog 69 = some true := by kernel_rfl
@[simp] theorem tzero_69 : tzero Try.prog 69 = some
  (Value.agg
    {
      toList :=
        [Value.int IntKind.u64 (Int.ofNat 0), Value.int IntKind.u64 (Int.ofNat 0), Value.int IntKind.u32 (Int.ofNat 0), Value.int IntKind.u8 (Int.ofNat 0), Value.int IntKind.u8 (Int.ofNat 0),
          Value.int IntKind.u8 (Int.ofNat 0), Value.int IntKind.u8 (Int.ofNat 0), Value.nilFunc, Value.pointer none, Value.int IntKind.i32 (Int.ofNat 0), Value.int IntKind.i32 (Int.ofNat 0)] }) := by kernel_rfl
@[simp] theorem tplaces_69 : tplaces Try.prog 69 = some [(0, 1), (1, 1), (2, 1), (3, 1), (4, 1), (5, 1), (6, 1), (7, 1), (8, 1), (9, 1), (10, 1)] := by kernel_rfl
@[simp] theorem telem_69 : telem Try.prog 69 = none := by kernel_rfl
@[simp] theorem tint_69 : tint Try.prog 69 = none := by kernel_rfl
@[simp] theorem tfld_69_0 : tfld Try.prog 69 0 = some (0, 12) := by kernel_rfl
@[simp] theorem tfld_69_1 : tfld Try.prog 69 1 = some (1, 12) := by kernel_rfl
@[simp] theorem tfld_69_2 : tfld Try.prog 69 2 = some (2, 62) := by kernel_rfl
@[simp] theorem tfld_69_3 : tfld Try.prog 69 3 = some (3, 63) := by kernel_rfl
@[simp] theorem tfld_69_4 : tfld Try.prog 69 4 = some (4, 5) := by kernel_rfl
@[simp] theorem tfld_69_5 : tfld Try.prog 69 5 = some (5, 5) := by kernel_rfl
@[simp] theorem tfld_69_6 : tfld Try.prog 69 6 = some (6, 64) := by kernel_rfl
@[simp] theorem tfld_69_7 : tfld Try.prog 69 7 = some (7, 65) := by kernel_rfl
@[simp] theorem tfld_69_8 : tfld Try.prog 69 8 = some (8, 66) := by kernel_rfl
@[simp] theorem tfld_69_9 : tfld Try.prog 69 9 = some (9, 67) := by kernel_rfl
@[simp] theorem tfld_69_10 : tfld Try.prog 69 10 = some (10, 68) := by kernel_rfl
@[simp] theorem tfld_69_11 : tfld Try.prog 69 11 = none := by kernel_rfl
@[simp] theorem tfld_69_12 : tfld Try.prog 69 12 = none := by kernel_rfl
@[simp] theorem tfld_69_13 : tfld Try.prog 69 13 = none := by kernel_rfl
@[simp] theorem tfld_69_14 : tfld Try.prog 69 14 = none := by kernel_rfl
@[simp] theorem tfld_69_15 : tfld Try.prog 69 15 = none := by kernel_rfl
@[simp] theorem tfld_69_16 : tfld Try.prog 69 16 = none := by kernel_rfl
@[simp] theorem tfld_69_17 : tfld Try.prog 69 17 = none := by kernel_rfl
@[simp] theorem tfld_69_18 : tfld Try.prog 69 18 = none := by kernel_rfl
@[simp] theorem tfld_69_19 : tfld Try.prog 69 19 = none := by kernel_rfl
@[simp] theorem tfld_69_20 : tfld Try.prog 69 20 = none := by kernel_rfl
@[simp] theorem tfld_69_21 : tfld Try.prog 69 21 = none := by kernel_rfl
@[simp] theorem tfld_69_22 : tfld Try.prog 69 22 = none := by kernel_rfl
@[simp] theorem tfld_69_23 : tfld Try.prog 69 23 = none := by kernel_rfl
@[simp] theorem tfld_69_24 : tfld Try.prog 69 24 = none := by kernel_rfl
@[simp] theorem tfld_69_25 : tfld Try.prog 69 25 = none := by kernel_rfl
@[simp] theorem tfld_69_26 : tfld Try.prog 69 26 = none := by kernel_rfl
@[simp] theorem tfld_69_27 : tfld Try.prog 69 27 = none := by kernel_rfl
@[simp] theorem tfld_69_28 : tfld Try.prog 69 28 = none := by kernel_rfl
@[simp] theorem tfld_69_29 : tfld Try.prog 69 29 = none := by kernel_rfl
@[simp] theorem tsz_70 : tsz Try.prog 70 = some 11 := by kernel_rfl
@[simp] theorem tagg_70 : tagg Try.prog 70 = some true := by kernel_rfl
@[simp] theorem tzero_70 : tzero Try.prog 70 = some
  (Value.agg
    {
      toList :=
        [Value.int IntKind.u64 (Int.ofNat 0), Value.int IntKind.u64 (Int.ofNat 0), Value.int IntKind.u32 (Int.ofNat 0), Value.int IntKind.u8 (Int.ofNat 0), Value.int IntKind.u8 (Int.ofNat 0),
          Value.int IntKind.u8 (Int.ofNat 0), Value.int IntKind.u8 (Int.ofNat 0), Value.nilFunc, Value.pointer none, Value.int IntKind.i32 (Int.ofNat 0), Value.int IntKind.i32 (Int.ofNat 0)] }) := by kernel_rfl
@[simp] theorem tplaces_70 : tplaces Try.prog 70 = some [(0, 1), (1, 1), (2, 1), (3, 1), (4, 1), (5, 1), (6, 1), (7, 1), (8, 1), (9, 1), (10, 1)] := by kernel_rfl
@[simp] theorem telem_70 : telem Try.prog 70 = none := by kernel_rfl
@[simp] theorem tint_70 : tint Try.prog 70 = none := by kernel_rfl
@[simp] theorem tfld_70_0 : tfld Try.prog 70 0 = some (0, 12) := by kernel_rfl
@[simp] theorem tfld_70_1 : tfld Try.prog 70 1 = some (1, 12) := by kernel_rfl
@[simp] theorem tfld_70_2 : tfld Try.prog 70 2 = some (2, 62) := by kernel_rfl
@[simp] theorem tfld_70_3 : tfld Try.prog 70 3 = some (3, 63) := by kernel_rfl
@[simp] theorem tfld_70_4 : tfld Try.prog 70 4 = some (4, 5) := by kernel_rfl
@[simp] theorem tfld_70_5 : tfld Try.prog 70 5 = some (5, 5) := by kernel_rfl
@[simp] theorem tfld_70_6 : tfld Try.prog 70 6 = some (6, 64) := by kernel_rfl
@[simp] theorem tfld_70_7 : tfld Try.prog 70 7 = some (7, 65) := by kernel_rfl
@[simp] theorem tfld_70_8 : tfld Try.prog 70 8 = some (8, 66) := by kernel_rfl
@[simp] theorem tfld_70_9 : tfld Try.prog 70 9 = some (9, 67) := by kernel_rfl
@[simp] theorem tfld_70_10 : tfld Try.prog 70 10 = some (10, 68) := by kernel_rfl
@[simp] theorem tfld_70_11 : tfld Try.prog 70 11 = none := by kernel_rfl
@[simp] theorem tfld_70_12 : tfld Try.prog 70 12 = none := by kernel_rfl
@[simp] theorem tfld_70_13 : tfld Try.prog 70 13 = none := by kernel_rfl
@[simp] theorem tfld_70_14 : tfld Try.prog 70 14 = none := by kernel_rfl
@[simp] theorem tfld_70_15 : tfld Try.prog 70 15 = none := by kernel_rfl
@[simp] theorem tfld_70_16 : tfld Try.prog 70 16 = none := by kernel_rfl
@[simp] theorem tfld_70_17 : tfld Try.prog 70 17 = none := by kernel_rfl
@[simp] theorem tfld_70_18 : tfld Try.prog 70 18 = none := by kernel_rfl
@[simp] theorem tfld_70_19 : tfld Try.prog 70 19 = none := by kernel_rfl
@[simp] theorem tfld_70_20 : tfld Try.prog 70 20 = none := by kernel_rfl
@[simp] theorem tfld_70_21 : tfld Try.prog 70 21 = none := by kernel_rfl
@[simp] theorem tfld_70_22 : tfld Try.prog 70 22 = none := by kernel_rfl
@[simp] theorem tfld_70_23 : tfld Try.prog 70 23 = none := by kernel_rfl
@[simp] theorem tfld_70_24 : tfld Try.prog 70 24 = none := by kernel_rfl
@[simp] theorem tfld_70_25 : tfld Try.prog 70 25 = none := by kernel_rfl
@[simp] theorem tfld_70_26 : tfld Try.prog 70 26 = none := by kernel_rfl
@[simp] theorem tfld_70_27 : tfld Try.prog 70 27 = none := by kernel_rfl
@[simp] theorem tfld_70_28 : tfld Try.prog 70 28 = none := by kernel_rfl
@[simp] theorem tfld_70_29 : tfld Try.prog 70 29 = none := by kernel_rfl
@[simp] theorem tsz_71 : tsz Try.prog 71 = some 1 := by kernel_rfl
@[simp] theorem tagg_71 : tagg Try.prog 71 = some false := by kernel_rfl
@[simp] theorem tzero_71 : tzero Try.prog 71 = some (Value.pointer none) := by kernel_rfl
@[simp] theorem tplaces_71 : tplaces Try.prog 71 = none := by kernel_rfl
@[simp] theorem telem_71 : telem Try.prog 71 = none := by kernel_rfl
@[simp] theorem tint_71 : tint Try.prog 71 = none := by kernel_rfl
@[simp] theorem tfld_71_0 : tfld Try.prog 71 0 = none := by kernel_rfl
@[simp] theorem tfld_71_1 : tfld Try.prog 71 1 = none := by kernel_rfl
@[simp] theorem tfld_71_2 : tfld Try.prog 71 2 = none := by kernel_rfl
@[simp] theorem tfld_71_3 : tfld Try.prog 71 3 = none := by kernel_rfl
@[simp] theorem tfld_71_4 : tfld Try.prog 71 4 = none := by kernel_rfl
@[simp] theorem tfld_71_5 : tfld Try.prog 71 5 = none := by kernel_rfl
@[simp] theorem tfld_71_6 : tfld Try.prog 71 6 = none := by kernel_rfl
@[simp] theorem tfld_71_7 : tfld Try.prog 71 7 = none := by kernel_rfl
@[simp] theorem tfld_71_8 : tfld Try.prog 71 8 = none := by kernel_rfl
@[simp] theorem tfld_71_9 : tfld Try.prog 71 9 = none := by kernel_rfl
@[simp] theorem tfld_71_10 : tfld Try.prog 71 10 = none := by kernel_rfl
@[simp] theorem tfld_71_11 : tfld Try.prog 71 11 = none := by kernel_rfl
@[simp] theorem tfld_71_12 : tfld Try.prog 71 12 = none := by kernel_rfl
@[simp] theorem tfld_71_13 : tfld Try.prog 71 13 = none := by kernel_rfl
@[simp] theorem tfld_71_14 : tfld Try.prog 71 14 = none := by kernel_rfl
@[simp] theorem tfld_71_15 : tfld Try.prog 71 15 = none := by kernel_rfl
@[simp] theorem tfld_71_16 : tfld Try.prog 71 16 = none := by kernel_rfl
@[simp] theorem tfld_71_17 : tfld Try.prog 71 17 = none := by kernel_rfl
@[simp] theorem tfld_71_18 : tfld Try.prog 71 18 = none := by kernel_rfl
@[simp] theorem tfld_71_19 : tfld Try.prog 71 19 = none := by kernel_rfl
@[simp] theorem tfld_71_20 : tfld Try.prog 71 20 = none := by kernel_rfl
@[simp] theorem tfld_71_21 : tfld Try.prog 71 21 = none := by kernel_rfl
@[simp] theorem tfld_71_22 : tfld Try.prog 71 22 = none := by kernel_rfl
@[simp] theorem tfld_71_23 : tfld Try.prog 71 23 = none := by kernel_rfl
@[simp] theorem tfld_71_24 : tfld Try.prog 71 24 = none := by kernel_rfl
@[simp] theorem tfld_71_25 : tfld Try.prog 71 25 = none := by kernel_rfl
@[simp] theorem tfld_71_26 : tfld Try.prog 71 26 = none := by kernel_rfl
@[simp] theorem tfld_71_27 : tfld Try.prog 71 27 = none := by kernel_rfl
@[simp] theorem tfld_71_28 : tfld Try.prog 71 28 = none := by kernel_rfl
@[simp] theorem tfld_71_29 : tfld Try.prog 71 29 = none := by kernel_rfl

end Go.Proofs.Ytfpkodajcpcabaa
