/- Contracts of functions of the seat's program, and what follows of them: Ty. Conditions are in each statement. -/
import Derived.Test.YtfhpojedoijghaaRows
import Derived.Test.YtfhpojedoijghaaV3
set_option linter.unusedSimpArgs false
set_option linter.unusedVariables false
namespace Go.Proofs.Ytfhpojedoijghaa
open Go Go.Proofs Go.Vm

@[simp] theorem tsz_0 : tsz Try.prog 0 = some 1 := by kernel_rfl
@[simp] theorem tagg_0 : tagg Try.prog 0 = some false := by kernel_rfl
@[simp] theorem tzero_0 : tzero Try.prog 0 = some (Value.tuple { toList := [] }) := by kernel_rfl
@[simp] theorem tplaces_0 : tplaces Try.prog 0 = none := by kernel_rfl
@[simp] theorem telem_0 : telem Try.prog 0 = none := by kernel_rfl
@[simp] theorem tint_0 : tint Try.prog 0 = none := by kernel_rfl
@[simp] theorem tsz_1 : tsz Try.prog 1 = some 1 := by kernel_rfl
@[simp] theorem tagg_1 : tagg Try.prog 1 = some false := by kernel_rfl
@[simp] theorem tzero_1 : tzero Try.prog 1 = some Value.nilFunc := by kernel_rfl
@[simp] theorem tplaces_1 : tplaces Try.prog 1 = none := by kernel_rfl
@[simp] theorem telem_1 : telem Try.prog 1 = none := by kernel_rfl
@[simp] theorem tint_1 : tint Try.prog 1 = none := by kernel_rfl
@[simp] theorem tsz_2 : tsz Try.prog 2 = some 1 := by kernel_rfl
@[simp] theorem tagg_2 : tagg Try.prog 2 = some false := by kernel_rfl
@[simp] theorem tzero_2 : tzero Try.prog 2 = some (Value.int IntKind.i64 (Int.ofNat 0)) := by kernel_rfl
@[simp] theorem tplaces_2 : tplaces Try.prog 2 = none := by kernel_rfl
@[simp] theorem telem_2 : telem Try.prog 2 = none := by kernel_rfl
@[simp] theorem tint_2 : tint Try.prog 2 = some IntKind.i64 := by kernel_rfl
@[simp] theorem tsz_3 : tsz Try.prog 3 = some 1 := by kernel_rfl
@[simp] theorem tagg_3 : tagg Try.prog 3 = some false := by kernel_rfl
@[simp] theorem tzero_3 : tzero Try.prog 3 = some (Value.int IntKind.i64 (Int.ofNat 0)) := by kernel_rfl
@[simp] theorem tplaces_3 : tplaces Try.prog 3 = none := by kernel_rfl
@[simp] theorem telem_3 : telem Try.prog 3 = none := by kernel_rfl
@[simp] theorem tint_3 : tint Try.prog 3 = some IntKind.i64 := by kernel_rfl
@[simp] theorem tsz_4 : tsz Try.prog 4 = some 1 := by kernel_rfl
@[simp] theorem tagg_4 : tagg Try.prog 4 = some false := by kernel_rfl
@[simp] theorem tzero_4 : tzero Try.prog 4 = some (Value.bool false) := by kernel_rfl
@[simp] theorem tplaces_4 : tplaces Try.prog 4 = none := by kernel_rfl
@[simp] theorem telem_4 : telem Try.prog 4 = none := by kernel_rfl
@[simp] theorem tint_4 : tint Try.prog 4 = none := by kernel_rfl
@[simp] theorem tsz_5 : tsz Try.prog 5 = some 1 := by kernel_rfl
@[simp] theorem tagg_5 : tagg Try.prog 5 = some false := by kernel_rfl
@[simp] theorem tzero_5 : tzero Try.prog 5 = some (Value.int IntKind.u8 (Int.ofNat 0)) := by kernel_rfl
@[simp] theorem tplaces_5 : tplaces Try.prog 5 = none := by kernel_rfl
@[simp] theorem telem_5 : telem Try.prog 5 = none := by kernel_rfl
@[simp] theorem tint_5 : tint Try.prog 5 = some IntKind.u8 := by kernel_rfl
@[simp] theorem tsz_6 : tsz Try.prog 6 = some 1 := by kernel_rfl
@[simp] theorem tagg_6 : tagg Try.prog 6 = some false := by kernel_rfl
@[simp] theorem tzero_6 : tzero Try.prog 6 = some (Value.int IntKind.u8 (Int.ofNat 0)) := by kernel_rfl
@[simp] theorem tplaces_6 : tplaces Try.prog 6 = none := by kernel_rfl
@[simp] theorem telem_6 : telem Try.prog 6 = none := by kernel_rfl
@[simp] theorem tint_6 : tint Try.prog 6 = some IntKind.u8 := by kernel_rfl
@[simp] theorem tsz_7 : tsz Try.prog 7 = some 4 := by kernel_rfl
@[simp] theorem tagg_7 : tagg Try.prog 7 = some true := by kernel_rfl
@[simp] theorem tzero_7 : tzero Try.prog 7 = some (Value.agg { toList := [Value.int IntKind.i64 (Int.ofNat 0), Value.int IntKind.i64 (Int.ofNat 0), Value.bool false, Value.int IntKind.u8 (Int.ofNat 0)] }) := by kernel_rfl
@[simp] theorem tplaces_7 : tplaces Try.prog 7 = some [(0, 1), (1, 1), (2, 1), (3, 1)] := by kernel_rfl
@[simp] theorem telem_7 : telem Try.prog 7 = none := by kernel_rfl
@[simp] theorem tint_7 : tint Try.prog 7 = none := by kernel_rfl
@[simp] theorem tfld_7_0 : tfld Try.prog 7 0 = some (0, 2) := by kernel_rfl
@[simp] theorem tfld_7_1 : tfld Try.prog 7 1 = some (1, 3) := by kernel_rfl
@[simp] theorem tfld_7_2 : tfld Try.prog 7 2 = some (2, 4) := by kernel_rfl
@[simp] theorem tfld_7_3 : tfld Try.prog 7 3 = some (3, 6) := by kernel_rfl
@[simp] theorem tsz_8 : tsz Try.prog 8 = some 4 := by kernel_rfl
@[simp] theorem tagg_8 : tagg Try.prog 8 = some true := by kernel_rfl
@[simp] theorem tzero_8 : tzero Try.prog 8 = some (Value.agg { toList := [Value.int IntKind.i64 (Int.ofNat 0), Value.int IntKind.i64 (Int.ofNat 0), Value.bool false, Value.int IntKind.u8 (Int.ofNat 0)] }) := by kernel_rfl
@[simp] theorem tplaces_8 : tplaces Try.prog 8 = some [(0, 1), (1, 1), (2, 1), (3, 1)] := by kernel_rfl
@[simp] theorem telem_8 : telem Try.prog 8 = none := by kernel_rfl
@[simp] theorem tint_8 : tint Try.prog 8 = none := by kernel_rfl
@[simp] theorem tfld_8_0 : tfld Try.prog 8 0 = some (0, 2) := by kernel_rfl
@[simp] theorem tfld_8_1 : tfld Try.prog 8 1 = some (1, 3) := by kernel_rfl
@[simp] theorem tfld_8_2 : tfld Try.prog 8 2 = some (2, 4) := by kernel_rfl
@[simp] theorem tfld_8_3 : tfld Try.prog 8 3 = some (3, 6) := by kernel_rfl
@[simp] theorem tsz_9 : tsz Try.prog 9 = some 1 := by kernel_rfl
@[simp] theorem tagg_9 : tagg Try.prog 9 = some false := by kernel_rfl
@[simp] theorem tzero_9 : tzero Try.prog 9 = some (Value.string { data := { toList := [] } }) := by kernel_rfl
@[simp] theorem tplaces_9 : tplaces Try.prog 9 = none := by kernel_rfl
@[simp] theorem telem_9 : telem Try.prog 9 = none := by kernel_rfl
@[simp] theorem tint_9 : tint Try.prog 9 = none := by kernel_rfl
@[simp] theorem tsz_10 : tsz Try.prog 10 = some 1 := by kernel_rfl
@[simp] theorem tagg_10 : tagg Try.prog 10 = some false := by kernel_rfl
@[simp] theorem tzero_10 : tzero Try.prog 10 = some (Value.string { data := { toList := [] } }) := by kernel_rfl
@[simp] theorem tplaces_10 : tplaces Try.prog 10 = none := by kernel_rfl
@[simp] theorem telem_10 : telem Try.prog 10 = none := by kernel_rfl
@[simp] theorem tint_10 : tint Try.prog 10 = none := by kernel_rfl
@[simp] theorem tsz_11 : tsz Try.prog 11 = some 1 := by kernel_rfl
@[simp] theorem tagg_11 : tagg Try.prog 11 = some false := by kernel_rfl
@[simp] theorem tzero_11 : tzero Try.prog 11 = some (Value.string { data := { toList := [] } }) := by kernel_rfl
@[simp] theorem tplaces_11 : tplaces Try.prog 11 = none := by kernel_rfl
@[simp] theorem telem_11 : telem Try.prog 11 = none := by kernel_rfl
@[simp] theorem tint_11 : tint Try.prog 11 = none := by kernel_rfl
@[simp] theorem tsz_12 : tsz Try.prog 12 = some 1 := by kernel_rfl
@[simp] theorem tagg_12 : tagg Try.prog 12 = some false := by kernel_rfl
@[simp] theorem tzero_12 : tzero Try.prog 12 = some (Value.int IntKind.u64 (Int.ofNat 0)) := by kernel_rfl
@[simp] theorem tplaces_12 : tplaces Try.prog 12 = none := by kernel_rfl
@[simp] theorem telem_12 : telem Try.prog 12 = none := by kernel_rfl
@[simp] theorem tint_12 : tint Try.prog 12 = some IntKind.u64 := by kernel_rfl
@[simp] theorem tsz_13 : tsz Try.prog 13 = some 2 := by kernel_rfl
@[simp] theorem tagg_13 : tagg Try.prog 13 = some true := by kernel_rfl
@[simp] theorem tzero_13 : tzero Try.prog 13 = some (Value.agg { toList := [Value.string { data := { toList := [] } }, Value.int IntKind.u64 (Int.ofNat 0)] }) := by kernel_rfl
@[simp] theorem tplaces_13 : tplaces Try.prog 13 = some [(0, 1), (1, 1)] := by kernel_rfl
@[simp] theorem telem_13 : telem Try.prog 13 = none := by kernel_rfl
@[simp] theorem tint_13 : tint Try.prog 13 = none := by kernel_rfl
@[simp] theorem tfld_13_0 : tfld Try.prog 13 0 = some (0, 9) := by kernel_rfl
@[simp] theorem tfld_13_1 : tfld Try.prog 13 1 = some (1, 12) := by kernel_rfl
@[simp] theorem tsz_14 : tsz Try.prog 14 = some 2 := by kernel_rfl
@[simp] theorem tagg_14 : tagg Try.prog 14 = some true := by kernel_rfl
@[simp] theorem tzero_14 : tzero Try.prog 14 = some (Value.agg { toList := [Value.string { data := { toList := [] } }, Value.int IntKind.u64 (Int.ofNat 0)] }) := by kernel_rfl
@[simp] theorem tplaces_14 : tplaces Try.prog 14 = some [(0, 1), (1, 1)] := by kernel_rfl
@[simp] theorem telem_14 : telem Try.prog 14 = none := by kernel_rfl
@[simp] theorem tint_14 : tint Try.prog 14 = none := by kernel_rfl
@[simp] theorem tfld_14_0 : tfld Try.prog 14 0 = some (0, 9) := by kernel_rfl
@[simp] theorem tfld_14_1 : tfld Try.prog 14 1 = some (1, 12) := by kernel_rfl
@[simp] theorem tsz_15 : tsz Try.prog 15 = some 1 := by kernel_rfl
@[simp] theorem tagg_15 : tagg Try.prog 15 = some false := by kernel_rfl
@[simp] theorem tzero_15 : tzero Try.prog 15 = some (Value.pointer none) := by kernel_rfl
@[simp] theorem tplaces_15 : tplaces Try.prog 15 = none := by kernel_rfl
@[simp] theorem telem_15 : telem Try.prog 15 = none := by kernel_rfl
@[simp] theorem tint_15 : tint Try.prog 15 = none := by kernel_rfl
@[simp] theorem tsz_16 : tsz Try.prog 16 = some 1 := by kernel_rfl
@[simp] theorem tagg_16 : tagg Try.prog 16 = some false := by kernel_rfl
@[simp] theorem tzero_16 : tzero Try.prog 16 = some (Value.pointer none) := by kernel_rfl
@[simp] theorem tplaces_16 : tplaces Try.prog 16 = none := by kernel_rfl
@[simp] theorem telem_16 : telem Try.prog 16 = none := by kernel_rfl
@[simp] theorem tint_16 : tint Try.prog 16 = none := by kernel_rfl
@[simp] theorem tsz_17 : tsz Try.prog 17 = some 1 := by kernel_rfl
@[simp] theorem tagg_17 : tagg Try.prog 17 = some false := by kernel_rfl
@[simp] theorem tzero_17 : tzero Try.prog 17 = some (Value.pointer none) := by kernel_rfl
@[simp] theorem tplaces_17 : tplaces Try.prog 17 = none := by kernel_rfl
@[simp] theorem telem_17 : telem Try.prog 17 = none := by kernel_rfl
@[simp] theorem tint_17 : tint Try.prog 17 = none := by kernel_rfl
@[simp] theorem tsz_18 : tsz Try.prog 18 = some 1 := by kernel_rfl
@[simp] theorem tagg_18 : tagg Try.prog 18 = some true := by kernel_rfl
@[simp] theorem tzero_18 : tzero Try.prog 18 = some (Value.agg { toList := [Value.pointer none] }) := by kernel_rfl
@[simp] theorem tplaces_18 : tplaces Try.prog 18 = some [(0, 1)] := by kernel_rfl
@[simp] theorem telem_18 : telem Try.prog 18 = none := by kernel_rfl
@[simp] theorem tint_18 : tint Try.prog 18 = none := by kernel_rfl
@[simp] theorem tfld_18_0 : tfld Try.prog 18 0 = some (0, 17) := by kernel_rfl
@[simp] theorem tsz_19 : tsz Try.prog 19 = some 1 := by kernel_rfl
@[simp] theorem tagg_19 : tagg Try.prog 19 = some true := by kernel_rfl
@[simp] theorem tzero_19 : tzero Try.prog 19 = some (Value.agg { toList := [Value.pointer none] }) := by kernel_rfl
@[simp] theorem tplaces_19 : tplaces Try.prog 19 = some [(0, 1)] := by kernel_rfl
@[simp] theorem telem_19 : telem Try.prog 19 = none := by kernel_rfl
@[simp] theorem tint_19 : tint Try.prog 19 = none := by kernel_rfl
@[simp] theorem tfld_19_0 : tfld Try.prog 19 0 = some (0, 17) := by kernel_rfl
@[simp] theorem tsz_20 : tsz Try.prog 20 = some 1 := by kernel_rfl
@[simp] theorem tagg_20 : tagg Try.prog 20 = some false := by kernel_rfl
@[simp] theorem tzero_20 : tzero Try.prog 20 = some Value.nilIface := by kernel_rfl
@[simp] theorem tplaces_20 : tplaces Try.prog 20 = none := by kernel_rfl
@[simp] theorem telem_20 : telem Try.prog 20 = none := by kernel_rfl
@[simp] theorem tint_20 : tint Try.prog 20 = none := by kernel_rfl
@[simp] theorem tsz_21 : tsz Try.prog 21 = some 1 := by kernel_rfl
@[simp] theorem tagg_21 : tagg Try.prog 21 = some false := by kernel_rfl
@[simp] theorem tzero_21 : tzero Try.prog 21 = some (Value.int IntKind.i32 (Int.ofNat 0)) := by kernel_rfl
@[simp] theorem tplaces_21 : tplaces Try.prog 21 = none := by kernel_rfl
@[simp] theorem telem_21 : telem Try.prog 21 = none := by kernel_rfl
@[simp] theorem tint_21 : tint Try.prog 21 = some IntKind.i32 := by kernel_rfl
@[simp] theorem tsz_22 : tsz Try.prog 22 = some 1 := by kernel_rfl
@[simp] theorem tagg_22 : tagg Try.prog 22 = some false := by kernel_rfl
@[simp] theorem tzero_22 : tzero Try.prog 22 = some (Value.slice none 0 0) := by kernel_rfl
@[simp] theorem tplaces_22 : tplaces Try.prog 22 = none := by kernel_rfl
@[simp] theorem telem_22 : telem Try.prog 22 = some (none, 42, 2) := by kernel_rfl
@[simp] theorem tint_22 : tint Try.prog 22 = none := by kernel_rfl
@[simp] theorem tsz_23 : tsz Try.prog 23 = some 1 := by kernel_rfl
@[simp] theorem tagg_23 : tagg Try.prog 23 = some false := by kernel_rfl
@[simp] theorem tzero_23 : tzero Try.prog 23 = some (Value.slice none 0 0) := by kernel_rfl
@[simp] theorem tplaces_23 : tplaces Try.prog 23 = none := by kernel_rfl
@[simp] theorem telem_23 : telem Try.prog 23 = some (none, 5, 1) := by kernel_rfl
@[simp] theorem tint_23 : tint Try.prog 23 = none := by kernel_rfl
@[simp] theorem tsz_24 : tsz Try.prog 24 = some 1 := by kernel_rfl
@[simp] theorem tagg_24 : tagg Try.prog 24 = some false := by kernel_rfl
@[simp] theorem tzero_24 : tzero Try.prog 24 = some Value.nilFunc := by kernel_rfl
@[simp] theorem tplaces_24 : tplaces Try.prog 24 = none := by kernel_rfl
@[simp] theorem telem_24 : telem Try.prog 24 = none := by kernel_rfl
@[simp] theorem tint_24 : tint Try.prog 24 = none := by kernel_rfl
@[simp] theorem tsz_25 : tsz Try.prog 25 = some 1 := by kernel_rfl
@[simp] theorem tagg_25 : tagg Try.prog 25 = some false := by kernel_rfl
@[simp] theorem tzero_25 : tzero Try.prog 25 = some Value.nilIface := by kernel_rfl
@[simp] theorem tplaces_25 : tplaces Try.prog 25 = none := by kernel_rfl
@[simp] theorem telem_25 : telem Try.prog 25 = none := by kernel_rfl
@[simp] theorem tint_25 : tint Try.prog 25 = none := by kernel_rfl
@[simp] theorem tsz_26 : tsz Try.prog 26 = some 1 := by kernel_rfl
@[simp] theorem tagg_26 : tagg Try.prog 26 = some false := by kernel_rfl
@[simp] theorem tzero_26 : tzero Try.prog 26 = some Value.nilIface := by kernel_rfl
@[simp] theorem tplaces_26 : tplaces Try.prog 26 = none := by kernel_rfl
@[simp] theorem telem_26 : telem Try.prog 26 = none := by kernel_rfl
@[simp] theorem tint_26 : tint Try.prog 26 = none := by kernel_rfl
@[simp] theorem tsz_27 : tsz Try.prog 27 = some 1 := by kernel_rfl
@[simp] theorem tagg_27 : tagg Try.prog 27 = some false := by kernel_rfl
@[simp] theorem tzero_27 : tzero Try.prog 27 = some (Value.tuple { toList := [Value.slice none 0 0, Value.nilIface] }) := by kernel_rfl
@[simp] theorem tplaces_27 : tplaces Try.prog 27 = none := by kernel_rfl
@[simp] theorem telem_27 : telem Try.prog 27 = none := by kernel_rfl
@[simp] theorem tint_27 : tint Try.prog 27 = none := by kernel_rfl
@[simp] theorem tsz_28 : tsz Try.prog 28 = some 1 := by kernel_rfl
@[simp] theorem tagg_28 : tagg Try.prog 28 = some false := by kernel_rfl
@[simp] theorem tzero_28 : tzero Try.prog 28 = some Value.nilFunc := by kernel_rfl
@[simp] theorem tplaces_28 : tplaces Try.prog 28 = none := by kernel_rfl
@[simp] theorem telem_28 : telem Try.prog 28 = none := by kernel_rfl
@[simp] theorem tint_28 : tint Try.prog 28 = none := by kernel_rfl
@[simp] theorem tsz_29 : tsz Try.prog 29 = some 1 := by kernel_rfl
@[simp] theorem tagg_29 : tagg Try.prog 29 = some false := by kernel_rfl
@[simp] theorem tzero_29 : tzero Try.prog 29 = some (Value.tuple { toList := [Value.slice none 0 0, Value.nilIface] }) := by kernel_rfl
@[simp] theorem tplaces_29 : tplaces Try.prog 29 = none := by kernel_rfl
@[simp] theorem telem_29 : telem Try.prog 29 = none := by kernel_rfl
@[simp] theorem tint_29 : tint Try.prog 29 = none := by kernel_rfl
@[simp] theorem tsz_30 : tsz Try.prog 30 = some 1 := by kernel_rfl
@[simp] theorem tagg_30 : tagg Try.prog 30 = some false := by kernel_rfl
@[simp] theorem tzero_30 : tzero Try.prog 30 = some Value.nilFunc := by kernel_rfl
@[simp] theorem tplaces_30 : tplaces Try.prog 30 = none := by kernel_rfl
@[simp] theorem telem_30 : telem Try.prog 30 = none := by kernel_rfl
@[simp] theorem tint_30 : tint Try.prog 30 = none := by kernel_rfl
@[simp] theorem tsz_31 : tsz Try.prog 31 = some 1 := by kernel_rfl
@[simp] theorem tagg_31 : tagg Try.prog 31 = some false := by kernel_rfl
@[simp] theorem tzero_31 : tzero Try.prog 31 = some Value.nilFunc := by kernel_rfl
@[simp] theorem tplaces_31 : tplaces Try.prog 31 = none := by kernel_rfl
@[simp] theorem telem_31 : telem Try.prog 31 = none := by kernel_rfl
@[simp] theorem tint_31 : tint Try.prog 31 = none := by kernel_rfl
@[simp] theorem tsz_32 : tsz Try.prog 32 = some 1 := by kernel_rfl
@[simp] theorem tagg_32 : tagg Try.prog 32 = some false := by kernel_rfl
@[simp] theorem tzero_32 : tzero Try.prog 32 = some Value.nilFunc := by kernel_rfl
@[simp] theorem tplaces_32 : tplaces Try.prog 32 = none := by kernel_rfl
@[simp] theorem telem_32 : telem Try.prog 32 = none := by kernel_rfl
@[simp] theorem tint_32 : tint Try.prog 32 = none := by kernel_rfl
@[simp] theorem tsz_33 : tsz Try.prog 33 = some 1 := by kernel_rfl
@[simp] theorem tagg_33 : tagg Try.prog 33 = some false := by kernel_rfl
@[simp] theorem tzero_33 : tzero Try.prog 33 = some Value.nilFunc := by kernel_rfl
@[simp] theorem tplaces_33 : tplaces Try.prog 33 = none := by kernel_rfl
@[simp] theorem telem_33 : telem Try.prog 33 = none := by kernel_rfl
@[simp] theorem tint_33 : tint Try.prog 33 = none := by kernel_rfl
@[simp] theorem tsz_34 : tsz Try.prog 34 = some 1 := by kernel_rfl
@[simp] theorem tagg_34 : tagg Try.prog 34 = some false := by kernel_rfl
@[simp] theorem tzero_34 : tzero Try.prog 34 = some (Value.int IntKind.u16 (Int.ofNat 0)) := by kernel_rfl
@[simp] theorem tplaces_34 : tplaces Try.prog 34 = none := by kernel_rfl
@[simp] theorem telem_34 : telem Try.prog 34 = none := by kernel_rfl
@[simp] theorem tint_34 : tint Try.prog 34 = some IntKind.u16 := by kernel_rfl
@[simp] theorem tsz_35 : tsz Try.prog 35 = some 1 := by kernel_rfl
@[simp] theorem tagg_35 : tagg Try.prog 35 = some false := by kernel_rfl
@[simp] theorem tzero_35 : tzero Try.prog 35 = some Value.nilFunc := by kernel_rfl
@[simp] theorem tplaces_35 : tplaces Try.prog 35 = none := by kernel_rfl
@[simp] theorem telem_35 : telem Try.prog 35 = none := by kernel_rfl
@[simp] theorem tint_35 : tint Try.prog 35 = none := by kernel_rfl
@[simp] theorem tsz_36 : tsz Try.prog 36 = some 1 := by kernel_rfl
@[simp] theorem tagg_36 : tagg Try.prog 36 = some false := by kernel_rfl
@[simp] theorem tzero_36 : tzero Try.prog 36 = some Value.nilFunc := by kernel_rfl
@[simp] theorem tplaces_36 : tplaces Try.prog 36 = none := by kernel_rfl
@[simp] theorem telem_36 : telem Try.prog 36 = none := by kernel_rfl
@[simp] theorem tint_36 : tint Try.prog 36 = none := by kernel_rfl
@[simp] theorem tsz_37 : tsz Try.prog 37 = some 1 := by kernel_rfl
@[simp] theorem tagg_37 : tagg Try.prog 37 = some false := by kernel_rfl
@[simp] theorem tzero_37 : tzero Try.prog 37 = some Value.nilFunc := by kernel_rfl
@[simp] theorem tplaces_37 : tplaces Try.prog 37 = none := by kernel_rfl
@[simp] theorem telem_37 : telem Try.prog 37 = none := by kernel_rfl
@[simp] theorem tint_37 : tint Try.prog 37 = none := by kernel_rfl
@[simp] theorem tsz_38 : tsz Try.prog 38 = some 1 := by kernel_rfl
@[simp] theorem tagg_38 : tagg Try.prog 38 = some false := by kernel_rfl
@[simp] theorem tzero_38 : tzero Try.prog 38 = some (Value.int IntKind.u64 (Int.ofNat 0)) := by kernel_rfl
@[simp] theorem tplaces_38 : tplaces Try.prog 38 = none := by kernel_rfl
@[simp] theorem telem_38 : telem Try.prog 38 = none := by kernel_rfl
@[simp] theorem tint_38 : tint Try.prog 38 = some IntKind.u64 := by kernel_rfl
@[simp] theorem tsz_39 : tsz Try.prog 39 = some 1 := by kernel_rfl
@[simp] theorem tagg_39 : tagg Try.prog 39 = some false := by kernel_rfl
@[simp] theorem tzero_39 : tzero Try.prog 39 = some Value.nilFunc := by kernel_rfl
@[simp] theorem tplaces_39 : tplaces Try.prog 39 = none := by kernel_rfl
@[simp] theorem telem_39 : telem Try.prog 39 = none := by kernel_rfl
@[simp] theorem tint_39 : tint Try.prog 39 = none := by kernel_rfl
@[simp] theorem tsz_40 : tsz Try.prog 40 = some 1 := by kernel_rfl
@[simp] theorem tagg_40 : tagg Try.prog 40 = some false := by kernel_rfl
@[simp] theorem tzero_40 : tzero Try.prog 40 = some (Value.int IntKind.i64 (Int.ofNat 0)) := by kernel_rfl
@[simp] theorem tplaces_40 : tplaces Try.prog 40 = none := by kernel_rfl
@[simp] theorem telem_40 : telem Try.prog 40 = none := by kernel_rfl
@[simp] theorem tint_40 : tint Try.prog 40 = some IntKind.i64 := by kernel_rfl
@[simp] theorem tsz_41 : tsz Try.prog 41 = some 2 := by kernel_rfl
@[simp] theorem tagg_41 : tagg Try.prog 41 = some true := by kernel_rfl
@[simp] theorem tzero_41 : tzero Try.prog 41 = some (Value.agg { toList := [Value.int IntKind.i64 (Int.ofNat 0), Value.int IntKind.i64 (Int.ofNat 0)] }) := by kernel_rfl
@[simp] theorem tplaces_41 : tplaces Try.prog 41 = some [(0, 1), (1, 1)] := by kernel_rfl
@[simp] theorem telem_41 : telem Try.prog 41 = none := by kernel_rfl
@[simp] theorem tint_41 : tint Try.prog 41 = none := by kernel_rfl
@[simp] theorem tfld_41_0 : tfld Try.prog 41 0 = some (0, 40) := by kernel_rfl
@[simp] theorem tfld_41_1 : tfld Try.prog 41 1 = some (1, 3) := by kernel_rfl
@[simp] theorem tsz_42 : tsz Try.prog 42 = some 2 := by kernel_rfl
@[simp] theorem tagg_42 : tagg Try.prog 42 = some true := by kernel_rfl
@[simp] theorem tzero_42 : tzero Try.prog 42 = some (Value.agg { toList := [Value.int IntKind.i64 (Int.ofNat 0), Value.int IntKind.i64 (Int.ofNat 0)] }) := by kernel_rfl
@[simp] theorem tplaces_42 : tplaces Try.prog 42 = some [(0, 1), (1, 1)] := by kernel_rfl
@[simp] theorem telem_42 : telem Try.prog 42 = none := by kernel_rfl
@[simp] theorem tint_42 : tint Try.prog 42 = none := by kernel_rfl
@[simp] theorem tfld_42_0 : tfld Try.prog 42 0 = some (0, 40) := by kernel_rfl
@[simp] theorem tfld_42_1 : tfld Try.prog 42 1 = some (1, 3) := by kernel_rfl
@[simp] theorem tsz_43 : tsz Try.prog 43 = some 1 := by kernel_rfl
@[simp] theorem tagg_43 : tagg Try.prog 43 = some false := by kernel_rfl
@[simp] theorem tzero_43 : tzero Try.prog 43 = some Value.nilFunc := by kernel_rfl
@[simp] theorem tplaces_43 : tplaces Try.prog 43 = none := by kernel_rfl
@[simp] theorem telem_43 : telem Try.prog 43 = none := by kernel_rfl
@[simp] theorem tint_43 : tint Try.prog 43 = none := by kernel_rfl
@[simp] theorem tsz_44 : tsz Try.prog 44 = some 1 := by kernel_rfl
@[simp] theorem tagg_44 : tagg Try.prog 44 = some false := by kernel_rfl
@[simp] theorem tzero_44 : tzero Try.prog 44 = some Value.nilFunc := by kernel_rfl
@[simp] theorem tplaces_44 : tplaces Try.prog 44 = none := by kernel_rfl
@[simp] theorem telem_44 : telem Try.prog 44 = none := by kernel_rfl
@[simp] theorem tint_44 : tint Try.prog 44 = none := by kernel_rfl
@[simp] theorem tsz_45 : tsz Try.prog 45 = some 1 := by kernel_rfl
@[simp] theorem tagg_45 : tagg Try.prog 45 = some false := by kernel_rfl
@[simp] theorem tzero_45 : tzero Try.prog 45 = some Value.nilFunc := by kernel_rfl
@[simp] theorem tplaces_45 : tplaces Try.prog 45 = none := by kernel_rfl
@[simp] theorem telem_45 : telem Try.prog 45 = none := by kernel_rfl
@[simp] theorem tint_45 : tint Try.prog 45 = none := by kernel_rfl
@[simp] theorem tsz_46 : tsz Try.prog 46 = some 1 := by kernel_rfl
@[simp] theorem tagg_46 : tagg Try.prog 46 = some false := by kernel_rfl
@[simp] theorem tzero_46 : tzero Try.prog 46 = some Value.nilFunc := by kernel_rfl
@[simp] theorem tplaces_46 : tplaces Try.prog 46 = none := by kernel_rfl
@[simp] theorem telem_46 : telem Try.prog 46 = none := by kernel_rfl
@[simp] theorem tint_46 : tint Try.prog 46 = none := by kernel_rfl
@[simp] theorem tsz_47 : tsz Try.prog 47 = some 1 := by kernel_rfl
@[simp] theorem tagg_47 : tagg Try.prog 47 = some false := by kernel_rfl
@[simp] theorem tzero_47 : tzero Try.prog 47 = some Value.nilFunc := by kernel_rfl
@[simp] theorem tplaces_47 : tplaces Try.prog 47 = none := by kernel_rfl
@[simp] theorem telem_47 : telem Try.prog 47 = none := by kernel_rfl
@[simp] theorem tint_47 : tint Try.prog 47 = none := by kernel_rfl
@[simp] theorem tsz_48 : tsz Try.prog 48 = some 1 := by kernel_rfl
@[simp] theorem tagg_48 : tagg Try.prog 48 = some false := by kernel_rfl
@[simp] theorem tzero_48 : tzero Try.prog 48 = some Value.nilFunc := by kernel_rfl
@[simp] theorem tplaces_48 : tplaces Try.prog 48 = none := by kernel_rfl
@[simp] theorem telem_48 : telem Try.prog 48 = none := by kernel_rfl
@[simp] theorem tint_48 : tint Try.prog 48 = none := by kernel_rfl
@[simp] theorem tsz_49 : tsz Try.prog 49 = some 1 := by kernel_rfl
@[simp] theorem tagg_49 : tagg Try.prog 49 = some false := by kernel_rfl
@[simp] theorem tzero_49 : tzero Try.prog 49 = some Value.nilFunc := by kernel_rfl
@[simp] theorem tplaces_49 : tplaces Try.prog 49 = none := by kernel_rfl
@[simp] theorem telem_49 : telem Try.prog 49 = none := by kernel_rfl
@[simp] theorem tint_49 : tint Try.prog 49 = none := by kernel_rfl
@[simp] theorem tsz_50 : tsz Try.prog 50 = some 1 := by kernel_rfl
@[simp] theorem tagg_50 : tagg Try.prog 50 = some false := by kernel_rfl
@[simp] theorem tzero_50 : tzero Try.prog 50 = some Value.nilFunc := by kernel_rfl
@[simp] theorem tplaces_50 : tplaces Try.prog 50 = none := by kernel_rfl
@[simp] theorem telem_50 : telem Try.prog 50 = none := by kernel_rfl
@[simp] theorem tint_50 : tint Try.prog 50 = none := by kernel_rfl
@[simp] theorem tsz_51 : tsz Try.prog 51 = some 1 := by kernel_rfl
@[simp] theorem tagg_51 : tagg Try.prog 51 = some false := by kernel_rfl
@[simp] theorem tzero_51 : tzero Try.prog 51 = some Value.nilFunc := by kernel_rfl
@[simp] theorem tplaces_51 : tplaces Try.prog 51 = none := by kernel_rfl
@[simp] theorem telem_51 : telem Try.prog 51 = none := by kernel_rfl
@[simp] theorem tint_51 : tint Try.prog 51 = none := by kernel_rfl
@[simp] theorem tsz_52 : tsz Try.prog 52 = some 2 := by kernel_rfl
@[simp] theorem tagg_52 : tagg Try.prog 52 = some true := by kernel_rfl
@[simp] theorem tzero_52 : tzero Try.prog 52 = some (Value.agg { toList := [Value.string { data := { toList := [] } }, Value.nilIface] }) := by kernel_rfl
@[simp] theorem tplaces_52 : tplaces Try.prog 52 = some [(0, 1), (1, 1)] := by kernel_rfl
@[simp] theorem telem_52 : telem Try.prog 52 = none := by kernel_rfl
@[simp] theorem tint_52 : tint Try.prog 52 = none := by kernel_rfl
@[simp] theorem tfld_52_0 : tfld Try.prog 52 0 = some (0, 9) := by kernel_rfl
@[simp] theorem tfld_52_1 : tfld Try.prog 52 1 = some (1, 26) := by kernel_rfl
@[simp] theorem tsz_53 : tsz Try.prog 53 = some 2 := by kernel_rfl
@[simp] theorem tagg_53 : tagg Try.prog 53 = some true := by kernel_rfl
@[simp] theorem tzero_53 : tzero Try.prog 53 = some (Value.agg { toList := [Value.string { data := { toList := [] } }, Value.nilIface] }) := by kernel_rfl
@[simp] theorem tplaces_53 : tplaces Try.prog 53 = some [(0, 1), (1, 1)] := by kernel_rfl
@[simp] theorem telem_53 : telem Try.prog 53 = none := by kernel_rfl
@[simp] theorem tint_53 : tint Try.prog 53 = none := by kernel_rfl
@[simp] theorem tfld_53_0 : tfld Try.prog 53 0 = some (0, 9) := by kernel_rfl
@[simp] theorem tfld_53_1 : tfld Try.prog 53 1 = some (1, 26) := by kernel_rfl
@[simp] theorem tsz_54 : tsz Try.prog 54 = some 1 := by kernel_rfl
@[simp] theorem tagg_54 : tagg Try.prog 54 = some false := by kernel_rfl
@[simp] theorem tzero_54 : tzero Try.prog 54 = some Value.nilFunc := by kernel_rfl
@[simp] theorem tplaces_54 : tplaces Try.prog 54 = none := by kernel_rfl
@[simp] theorem telem_54 : telem Try.prog 54 = none := by kernel_rfl
@[simp] theorem tint_54 : tint Try.prog 54 = none := by kernel_rfl
@[simp] theorem tsz_55 : tsz Try.prog 55 = some 2 := by kernel_rfl
@[simp] theorem tagg_55 : tagg Try.prog 55 = some true := by kernel_rfl
@[simp] theorem tzero_55 : tzero Try.prog 55 = some (Value.agg { toList := [Value.int IntKind.i64 (Int.ofNat 0), Value.int IntKind.i64 (Int.ofNat 0)] }) := by kernel_rfl
@[simp] theorem tplaces_55 : tplaces Try.prog 55 = some [(0, 2)] := by kernel_rfl
@[simp] theorem telem_55 : telem Try.prog 55 = none := by kernel_rfl
@[simp] theorem tint_55 : tint Try.prog 55 = none := by kernel_rfl
@[simp] theorem tfld_55_0 : tfld Try.prog 55 0 = some (0, 42) := by kernel_rfl
@[simp] theorem tsz_56 : tsz Try.prog 56 = some 2 := by kernel_rfl
@[simp] theorem tagg_56 : tagg Try.prog 56 = some true := by kernel_rfl
@[simp] theorem tzero_56 : tzero Try.prog 56 = some (Value.agg { toList := [Value.int IntKind.i64 (Int.ofNat 0), Value.int IntKind.i64 (Int.ofNat 0)] }) := by kernel_rfl
@[simp] theorem tplaces_56 : tplaces Try.prog 56 = some [(0, 2)] := by kernel_rfl
@[simp] theorem telem_56 : telem Try.prog 56 = none := by kernel_rfl
@[simp] theorem tint_56 : tint Try.prog 56 = none := by kernel_rfl
@[simp] theorem tfld_56_0 : tfld Try.prog 56 0 = some (0, 42) := by kernel_rfl
@[simp] theorem tsz_57 : tsz Try.prog 57 = some 1 := by kernel_rfl
@[simp] theorem tagg_57 : tagg Try.prog 57 = some false := by kernel_rfl
@[simp] theorem tzero_57 : tzero Try.prog 57 = some Value.nilFunc := by kernel_rfl
@[simp] theorem tplaces_57 : tplaces Try.prog 57 = none := by kernel_rfl
@[simp] theorem telem_57 : telem Try.prog 57 = none := by kernel_rfl
@[simp] theorem tint_57 : tint Try.prog 57 = none := by kernel_rfl
@[simp] theorem tsz_58 : tsz Try.prog 58 = some 4 := by kernel_rfl
@[simp] theorem tagg_58 : tagg Try.prog 58 = some true := by kernel_rfl
@[simp] theorem tzero_58 : tzero Try.prog 58 = some (Value.agg { toList := [Value.pointer none, Value.pointer none, Value.pointer none, Value.string { data := { toList := [] } }] }) := by kernel_rfl
@[simp] theorem tplaces_58 : tplaces Try.prog 58 = some [(0, 1), (1, 1), (2, 1), (3, 1)] := by kernel_rfl
@[simp] theorem telem_58 : telem Try.prog 58 = none := by kernel_rfl
@[simp] theorem tint_58 : tint Try.prog 58 = none := by kernel_rfl
@[simp] theorem tfld_58_0 : tfld Try.prog 58 0 = some (0, 17) := by kernel_rfl
@[simp] theorem tfld_58_1 : tfld Try.prog 58 1 = some (1, 17) := by kernel_rfl
@[simp] theorem tfld_58_2 : tfld Try.prog 58 2 = some (2, 17) := by kernel_rfl
@[simp] theorem tfld_58_3 : tfld Try.prog 58 3 = some (3, 9) := by kernel_rfl
@[simp] theorem tsz_59 : tsz Try.prog 59 = some 4 := by kernel_rfl
@[simp] theorem tagg_59 : tagg Try.prog 59 = some true := by kernel_rfl
@[simp] theorem tzero_59 : tzero Try.prog 59 = some (Value.agg { toList := [Value.pointer none, Value.pointer none, Value.pointer none, Value.string { data := { toList := [] } }] }) := by kernel_rfl
@[simp] theorem tplaces_59 : tplaces Try.prog 59 = some [(0, 1), (1, 1), (2, 1), (3, 1)] := by kernel_rfl
@[simp] theorem telem_59 : telem Try.prog 59 = none := by kernel_rfl
@[simp] theorem tint_59 : tint Try.prog 59 = none := by kernel_rfl
@[simp] theorem tfld_59_0 : tfld Try.prog 59 0 = some (0, 17) := by kernel_rfl
@[simp] theorem tfld_59_1 : tfld Try.prog 59 1 = some (1, 17) := by kernel_rfl
@[simp] theorem tfld_59_2 : tfld Try.prog 59 2 = some (2, 17) := by kernel_rfl
@[simp] theorem tfld_59_3 : tfld Try.prog 59 3 = some (3, 9) := by kernel_rfl
@[simp] theorem tsz_60 : tsz Try.prog 60 = some 0 := by kernel_rfl
@[simp] theorem tagg_60 : tagg Try.prog 60 = some true := by kernel_rfl
@[simp] theorem tzero_60 : tzero Try.prog 60 = some (Value.agg { toList := [] }) := by kernel_rfl
@[simp] theorem tplaces_60 : tplaces Try.prog 60 = none := by kernel_rfl
@[simp] theorem telem_60 : telem Try.prog 60 = some (some 0, 16, 1) := by kernel_rfl
@[simp] theorem tint_60 : tint Try.prog 60 = none := by kernel_rfl
@[simp] theorem tsz_61 : tsz Try.prog 61 = some 0 := by kernel_rfl
@[simp] theorem tagg_61 : tagg Try.prog 61 = some true := by kernel_rfl
@[simp] theorem tzero_61 : tzero Try.prog 61 = some (Value.agg { toList := [] }) := by kernel_rfl
@[simp] theorem tplaces_61 : tplaces Try.prog 61 = some [(0, 0)] := by kernel_rfl
@[simp] theorem telem_61 : telem Try.prog 61 = none := by kernel_rfl
@[simp] theorem tint_61 : tint Try.prog 61 = none := by kernel_rfl
@[simp] theorem tfld_61_0 : tfld Try.prog 61 0 = some (0, 60) := by kernel_rfl
@[simp] theorem tsz_62 : tsz Try.prog 62 = some 0 := by kernel_rfl
@[simp] theorem tagg_62 : tagg Try.prog 62 = some true := by kernel_rfl
@[simp] theorem tzero_62 : tzero Try.prog 62 = some (Value.agg { toList := [] }) := by kernel_rfl
@[simp] theorem tplaces_62 : tplaces Try.prog 62 = some [(0, 0)] := by kernel_rfl
@[simp] theorem telem_62 : telem Try.prog 62 = none := by kernel_rfl
@[simp] theorem tint_62 : tint Try.prog 62 = none := by kernel_rfl
@[simp] theorem tfld_62_0 : tfld Try.prog 62 0 = some (0, 60) := by kernel_rfl
@[simp] theorem tsz_63 : tsz Try.prog 63 = some 1 := by kernel_rfl
@[simp] theorem tagg_63 : tagg Try.prog 63 = some false := by kernel_rfl
@[simp] theorem tzero_63 : tzero Try.prog 63 = some Value.nilFunc := by kernel_rfl
@[simp] theorem tplaces_63 : tplaces Try.prog 63 = none := by kernel_rfl
@[simp] theorem telem_63 : telem Try.prog 63 = none := by kernel_rfl
@[simp] theorem tint_63 : tint Try.prog 63 = none := by kernel_rfl
@[simp] theorem tsz_64 : tsz Try.prog 64 = some 1 := by kernel_rfl
@[simp] theorem tagg_64 : tagg Try.prog 64 = some false := by kernel_rfl
@[simp] theorem tzero_64 : tzero Try.prog 64 = some (Value.int IntKind.u32 (Int.ofNat 0)) := by kernel_rfl
@[simp] theorem tplaces_64 : tplaces Try.prog 64 = none := by kernel_rfl
@[simp] theorem telem_64 : telem Try.prog 64 = none := by kernel_rfl
@[simp] theorem tint_64 : tint Try.prog 64 = some IntKind.u32 := by kernel_rfl
@[simp] theorem tsz_65 : tsz Try.prog 65 = some 1 := by kernel_rfl
@[simp] theorem tagg_65 : tagg Try.prog 65 = some false := by kernel_rfl
@[simp] theorem tzero_65 : tzero Try.prog 65 = some (Value.int IntKind.u8 (Int.ofNat 0)) := by kernel_rfl
@[simp] theorem tplaces_65 : tplaces Try.prog 65 = none := by kernel_rfl
@[simp] theorem telem_65 : telem Try.prog 65 = none := by kernel_rfl
@[simp] theorem tint_65 : tint Try.prog 65 = some IntKind.u8 := by kernel_rfl
@[simp] theorem tsz_66 : tsz Try.prog 66 = some 1 := by kernel_rfl
@[simp] theorem tagg_66 : tagg Try.prog 66 = some false := by kernel_rfl
@[simp] theorem tzero_66 : tzero Try.prog 66 = some (Value.int IntKind.u8 (Int.ofNat 0)) := by kernel_rfl
@[simp] theorem tplaces_66 : tplaces Try.prog 66 = none := by kernel_rfl
@[simp] theorem telem_66 : telem Try.prog 66 = none := by kernel_rfl
@[simp] theorem tint_66 : tint Try.prog 66 = some IntKind.u8 := by kernel_rfl
@[simp] theorem tsz_67 : tsz Try.prog 67 = some 1 := by kernel_rfl
@[simp] theorem tagg_67 : tagg Try.prog 67 = some false := by kernel_rfl
@[simp] theorem tzero_67 : tzero Try.prog 67 = some Value.nilFunc := by kernel_rfl
@[simp] theorem tplaces_67 : tplaces Try.prog 67 = none := by kernel_rfl
@[simp] theorem telem_67 : telem Try.prog 67 = none := by kernel_rfl
@[simp] theorem tint_67 : tint Try.prog 67 = none := by kernel_rfl
@[simp] theorem tsz_68 : tsz Try.prog 68 = some 1 := by kernel_rfl
@[simp] theorem tagg_68 : tagg Try.prog 68 = some false := by kernel_rfl
@[simp] theorem tzero_68 : tzero Try.prog 68 = some (Value.pointer none) := by kernel_rfl
@[simp] theorem tplaces_68 : tplaces Try.prog 68 = none := by kernel_rfl
@[simp] theorem telem_68 : telem Try.prog 68 = none := by kernel_rfl
@[simp] theorem tint_68 : tint Try.prog 68 = none := by kernel_rfl
@[simp] theorem tsz_69 : tsz Try.prog 69 = some 1 := by kernel_rfl
@[simp] theorem tagg_69 : tagg Try.prog 69 = some false := by kernel_rfl
@[simp] theorem tzero_69 : tzero Try.prog 69 = some (Value.int IntKind.i32 (Int.ofNat 0)) := by kernel_rfl
@[simp] theorem tplaces_69 : tplaces Try.prog 69 = none := by kernel_rfl
@[simp] theorem telem_69 : telem Try.prog 69 = none := by kernel_rfl
@[simp] theorem tint_69 : tint Try.prog 69 = some IntKind.i32 := by kernel_rfl
@[simp] theorem tsz_70 : tsz Try.prog 70 = some 1 := by kernel_rfl
@[simp] theorem tagg_70 : tagg Try.prog 70 = some false := by kernel_rfl
@[simp] theorem tzero_70 : tzero Try.prog 70 = some (Value.int IntKind.i32 (Int.ofNat 0)) := by kernel_rfl
@[simp] theorem tplaces_70 : tplaces Try.prog 70 = none := by kernel_rfl
@[simp] theorem telem_70 : telem Try.prog 70 = none := by kernel_rfl
@[simp] theorem tint_70 : tint Try.prog 70 = some IntKind.i32 := by kernel_rfl
@[simp] theorem tsz_71 : tsz Try.prog 71 = some 11 := by kernel_rfl
@[simp] theorem tagg_71 : tagg Try.prog 71 = some true := by kernel_rfl
@[simp] theorem tzero_71 : tzero Try.prog 71 = some
  (Value.agg
    {
      toList :=
        [Value.int IntKind.u64 (Int.ofNat 0), Value.int IntKind.u64 (Int.ofNat 0), Value.int IntKind.u32 (Int.ofNat 0), Value.int IntKind.u8 (Int.ofNat 0), Value.int IntKind.u8 (Int.ofNat 0),
          Value.int IntKind.u8 (Int.ofNat 0), Value.int IntKind.u8 (Int.ofNat 0), Value.nilFunc, Value.pointer none, Value.int IntKind.i32 (Int.ofNat 0), Value.int IntKind.i32 (Int.ofNat 0)] }) := by kernel_rfl
@[simp] theorem tplaces_71 : tplaces Try.prog 71 = some [(0, 1), (1, 1), (2, 1), (3, 1), (4, 1), (5, 1), (6, 1), (7, 1), (8, 1), (9, 1), (10, 1)] := by kernel_rfl
@[simp] theorem telem_71 : telem Try.prog 71 = none := by kernel_rfl
@[simp] theorem tint_71 : tint Try.prog 71 = none := by kernel_rfl
@[simp] theorem tfld_71_0 : tfld Try.prog 71 0 = some (0, 12) := by kernel_rfl
@[simp] theorem tfld_71_1 : tfld Try.prog 71 1 = some (1, 12) := by kernel_rfl
@[simp] theorem tfld_71_2 : tfld Try.prog 71 2 = some (2, 64) := by kernel_rfl
@[simp] theorem tfld_71_3 : tfld Try.prog 71 3 = some (3, 65) := by kernel_rfl
@[simp] theorem tfld_71_4 : tfld Try.prog 71 4 = some (4, 5) := by kernel_rfl
@[simp] theorem tfld_71_5 : tfld Try.prog 71 5 = some (5, 5) := by kernel_rfl
@[simp] theorem tfld_71_6 : tfld Try.prog 71 6 = some (6, 66) := by kernel_rfl
@[simp] theorem tfld_71_7 : tfld Try.prog 71 7 = some (7, 67) := by kernel_rfl
@[simp] theorem tfld_71_8 : tfld Try.prog 71 8 = some (8, 68) := by kernel_rfl
@[simp] theorem tfld_71_9 : tfld Try.prog 71 9 = some (9, 69) := by kernel_rfl
@[simp] theorem tfld_71_10 : tfld Try.prog 71 10 = some (10, 70) := by kernel_rfl
@[simp] theorem tsz_72 : tsz Try.prog 72 = some 11 := by kernel_rfl
@[simp] theorem tagg_72 : tagg Try.prog 72 = some true := by kernel_rfl
@[simp] theorem tzero_72 : tzero Try.prog 72 = some
  (Value.agg
    {
      toList :=
        [Value.int IntKind.u64 (Int.ofNat 0), Value.int IntKind.u64 (Int.ofNat 0), Value.int IntKind.u32 (Int.ofNat 0), Value.int IntKind.u8 (Int.ofNat 0), Value.int IntKind.u8 (Int.ofNat 0),
          Value.int IntKind.u8 (Int.ofNat 0), Value.int IntKind.u8 (Int.ofNat 0), Value.nilFunc, Value.pointer none, Value.int IntKind.i32 (Int.ofNat 0), Value.int IntKind.i32 (Int.ofNat 0)] }) := by kernel_rfl
@[simp] theorem tplaces_72 : tplaces Try.prog 72 = some [(0, 1), (1, 1), (2, 1), (3, 1), (4, 1), (5, 1), (6, 1), (7, 1), (8, 1), (9, 1), (10, 1)] := by kernel_rfl
@[simp] theorem telem_72 : telem Try.prog 72 = none := by kernel_rfl
@[simp] theorem tint_72 : tint Try.prog 72 = none := by kernel_rfl
@[simp] theorem tfld_72_0 : tfld Try.prog 72 0 = some (0, 12) := by kernel_rfl
@[simp] theorem tfld_72_1 : tfld Try.prog 72 1 = some (1, 12) := by kernel_rfl
@[simp] theorem tfld_72_2 : tfld Try.prog 72 2 = some (2, 64) := by kernel_rfl
@[simp] theorem tfld_72_3 : tfld Try.prog 72 3 = some (3, 65) := by kernel_rfl
@[simp] theorem tfld_72_4 : tfld Try.prog 72 4 = some (4, 5) := by kernel_rfl
@[simp] theorem tfld_72_5 : tfld Try.prog 72 5 = some (5, 5) := by kernel_rfl
@[simp] theorem tfld_72_6 : tfld Try.prog 72 6 = some (6, 66) := by kernel_rfl
@[simp] theorem tfld_72_7 : tfld Try.prog 72 7 = some (7, 67) := by kernel_rfl
@[simp] theorem tfld_72_8 : tfld Try.prog 72 8 = some (8, 68) := by kernel_rfl
@[simp] theorem tfld_72_9 : tfld Try.prog 72 9 = some (9, 69) := by kernel_rfl
@[simp] theorem tfld_72_10 : tfld Try.prog 72 10 = some (10, 70) := by kernel_rfl
@[simp] theorem tsz_73 : tsz Try.prog 73 = some 1 := by kernel_rfl
@[simp] theorem tagg_73 : tagg Try.prog 73 = some false := by kernel_rfl
@[simp] theorem tzero_73 : tzero Try.prog 73 = some (Value.pointer none) := by kernel_rfl
@[simp] theorem tplaces_73 : tplaces Try.prog 73 = none := by kernel_rfl
@[simp] theorem telem_73 : telem Try.prog 73 = none := by kernel_rfl
@[simp] theorem tint_73 : tint Try.prog 73 = none := by kernel_rfl
end Go.Proofs.Ytfhpojedoijghaa
