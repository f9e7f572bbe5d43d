/- Contracts of functions of the seat's program, and what follows of them: Ty. Conditions are in each statement. -/
import Derived.Test.YtnoigkdecjeilaaDoorRows
import Derived.Test.YtnoigkdecjeilaaDoorV3
set_option linter.unusedSimpArgs false
set_option linter.unusedVariables false
namespace Go.Proofs.YtnoigkdecjeilaaDoor
open Go Go.Proofs Go.Vm

@[simp] theorem tsz_0 : tsz Tryd.prog 0 = some 1 := by kernel_rfl
@[simp] theorem tagg_0 : tagg Tryd.prog 0 = some false := by kernel_rfl
@[simp] theorem tzero_0 : tzero Tryd.prog 0 = some (Value.tuple { toList := [] }) := by kernel_rfl
@[simp] theorem tplaces_0 : tplaces Tryd.prog 0 = none := by kernel_rfl
@[simp] theorem telem_0 : telem Tryd.prog 0 = none := by kernel_rfl
@[simp] theorem tint_0 : tint Tryd.prog 0 = none := by kernel_rfl
@[simp] theorem tsz_1 : tsz Tryd.prog 1 = some 1 := by kernel_rfl
@[simp] theorem tagg_1 : tagg Tryd.prog 1 = some false := by kernel_rfl
@[simp] theorem tzero_1 : tzero Tryd.prog 1 = some Value.nilFunc := by kernel_rfl
@[simp] theorem tplaces_1 : tplaces Tryd.prog 1 = none := by kernel_rfl
@[simp] theorem telem_1 : telem Tryd.prog 1 = none := by kernel_rfl
@[simp] theorem tint_1 : tint Tryd.prog 1 = none := by kernel_rfl
@[simp] theorem tsz_2 : tsz Tryd.prog 2 = some 1 := by kernel_rfl
@[simp] theorem tagg_2 : tagg Tryd.prog 2 = some false := by kernel_rfl
@[simp] theorem tzero_2 : tzero Tryd.prog 2 = some (Value.int IntKind.i64 (Int.ofNat 0)) := by kernel_rfl
@[simp] theorem tplaces_2 : tplaces Tryd.prog 2 = none := by kernel_rfl
@[simp] theorem telem_2 : telem Tryd.prog 2 = none := by kernel_rfl
@[simp] theorem tint_2 : tint Tryd.prog 2 = some IntKind.i64 := by kernel_rfl
@[simp] theorem tsz_3 : tsz Tryd.prog 3 = some 1 := by kernel_rfl
@[simp] theorem tagg_3 : tagg Tryd.prog 3 = some false := by kernel_rfl
@[simp] theorem tzero_3 : tzero Tryd.prog 3 = some (Value.int IntKind.i64 (Int.ofNat 0)) := by kernel_rfl
@[simp] theorem tplaces_3 : tplaces Tryd.prog 3 = none := by kernel_rfl
@[simp] theorem telem_3 : telem Tryd.prog 3 = none := by kernel_rfl
@[simp] theorem tint_3 : tint Tryd.prog 3 = some IntKind.i64 := by kernel_rfl
@[simp] theorem tsz_4 : tsz Tryd.prog 4 = some 1 := by kernel_rfl
@[simp] theorem tagg_4 : tagg Tryd.prog 4 = some false := by kernel_rfl
@[simp] theorem tzero_4 : tzero Tryd.prog 4 = some (Value.bool false) := by kernel_rfl
@[simp] theorem tplaces_4 : tplaces Tryd.prog 4 = none := by kernel_rfl
@[simp] theorem telem_4 : telem Tryd.prog 4 = none := by kernel_rfl
@[simp] theorem tint_4 : tint Tryd.prog 4 = none := by kernel_rfl
@[simp] theorem tsz_5 : tsz Tryd.prog 5 = some 1 := by kernel_rfl
@[simp] theorem tagg_5 : tagg Tryd.prog 5 = some false := by kernel_rfl
@[simp] theorem tzero_5 : tzero Tryd.prog 5 = some (Value.int IntKind.u8 (Int.ofNat 0)) := by kernel_rfl
@[simp] theorem tplaces_5 : tplaces Tryd.prog 5 = none := by kernel_rfl
@[simp] theorem telem_5 : telem Tryd.prog 5 = none := by kernel_rfl
@[simp] theorem tint_5 : tint Tryd.prog 5 = some IntKind.u8 := by kernel_rfl
@[simp] theorem tsz_6 : tsz Tryd.prog 6 = some 1 := by kernel_rfl
@[simp] theorem tagg_6 : tagg Tryd.prog 6 = some false := by kernel_rfl
@[simp] theorem tzero_6 : tzero Tryd.prog 6 = some (Value.int IntKind.u8 (Int.ofNat 0)) := by kernel_rfl
@[simp] theorem tplaces_6 : tplaces Tryd.prog 6 = none := by kernel_rfl
@[simp] theorem telem_6 : telem Tryd.prog 6 = none := by kernel_rfl
@[simp] theorem tint_6 : tint Tryd.prog 6 = some IntKind.u8 := by kernel_rfl
@[simp] theorem tsz_7 : tsz Tryd.prog 7 = some 4 := by kernel_rfl
@[simp] theorem tagg_7 : tagg Tryd.prog 7 = some true := by kernel_rfl
@[simp] theorem tzero_7 : tzero Tryd.prog 7 = some (Value.agg { toList := [Value.int IntKind.i64 (Int.ofNat 0), Value.int IntKind.i64 (Int.ofNat 0), Value.bool false, Value.int IntKind.u8 (Int.ofNat 0)] }) := by kernel_rfl
@[simp] theorem tplaces_7 : tplaces Tryd.prog 7 = some [(0, 1), (1, 1), (2, 1), (3, 1)] := by kernel_rfl
@[simp] theorem telem_7 : telem Tryd.prog 7 = none := by kernel_rfl
@[simp] theorem tint_7 : tint Tryd.prog 7 = none := by kernel_rfl
@[simp] theorem tfld_7_0 : tfld Tryd.prog 7 0 = some (0, 2) := by kernel_rfl
@[simp] theorem tfld_7_1 : tfld Tryd.prog 7 1 = some (1, 3) := by kernel_rfl
@[simp] theorem tfld_7_2 : tfld Tryd.prog 7 2 = some (2, 4) := by kernel_rfl
@[simp] theorem tfld_7_3 : tfld Tryd.prog 7 3 = some (3, 6) := by kernel_rfl
@[simp] theorem tsz_8 : tsz Tryd.prog 8 = some 4 := by kernel_rfl
@[simp] theorem tagg_8 : tagg Tryd.prog 8 = some true := by kernel_rfl
@[simp] theorem tzero_8 : tzero Tryd.prog 8 = some (Value.agg { toList := [Value.int IntKind.i64 (Int.ofNat 0), Value.int IntKind.i64 (Int.ofNat 0), Value.bool false, Value.int IntKind.u8 (Int.ofNat 0)] }) := by kernel_rfl
@[simp] theorem tplaces_8 : tplaces Tryd.prog 8 = some [(0, 1), (1, 1), (2, 1), (3, 1)] := by kernel_rfl
@[simp] theorem telem_8 : telem Tryd.prog 8 = none := by kernel_rfl
@[simp] theorem tint_8 : tint Tryd.prog 8 = none := by kernel_rfl
@[simp] theorem tfld_8_0 : tfld Tryd.prog 8 0 = some (0, 2) := by kernel_rfl
@[simp] theorem tfld_8_1 : tfld Tryd.prog 8 1 = some (1, 3) := by kernel_rfl
@[simp] theorem tfld_8_2 : tfld Tryd.prog 8 2 = some (2, 4) := by kernel_rfl
@[simp] theorem tfld_8_3 : tfld Tryd.prog 8 3 = some (3, 6) := by kernel_rfl
@[simp] theorem tsz_9 : tsz Tryd.prog 9 = some 1 := by kernel_rfl
@[simp] theorem tagg_9 : tagg Tryd.prog 9 = some false := by kernel_rfl
@[simp] theorem tzero_9 : tzero Tryd.prog 9 = some (Value.string { data := { toList := [] } }) := by kernel_rfl
@[simp] theorem tplaces_9 : tplaces Tryd.prog 9 = none := by kernel_rfl
@[simp] theorem telem_9 : telem Tryd.prog 9 = none := by kernel_rfl
@[simp] theorem tint_9 : tint Tryd.prog 9 = none := by kernel_rfl
@[simp] theorem tsz_10 : tsz Tryd.prog 10 = some 1 := by kernel_rfl
@[simp] theorem tagg_10 : tagg Tryd.prog 10 = some false := by kernel_rfl
@[simp] theorem tzero_10 : tzero Tryd.prog 10 = some (Value.string { data := { toList := [] } }) := by kernel_rfl
@[simp] theorem tplaces_10 : tplaces Tryd.prog 10 = none := by kernel_rfl
@[simp] theorem telem_10 : telem Tryd.prog 10 = none := by kernel_rfl
@[simp] theorem tint_10 : tint Tryd.prog 10 = none := by kernel_rfl
@[simp] theorem tsz_11 : tsz Tryd.prog 11 = some 1 := by kernel_rfl
@[simp] theorem tagg_11 : tagg Tryd.prog 11 = some false := by kernel_rfl
@[simp] theorem tzero_11 : tzero Tryd.prog 11 = some (Value.string { data := { toList := [] } }) := by kernel_rfl
@[simp] theorem tplaces_11 : tplaces Tryd.prog 11 = none := by kernel_rfl
@[simp] theorem telem_11 : telem Tryd.prog 11 = none := by kernel_rfl
@[simp] theorem tint_11 : tint Tryd.prog 11 = none := by kernel_rfl
@[simp] theorem tsz_12 : tsz Tryd.prog 12 = some 1 := by kernel_rfl
@[simp] theorem tagg_12 : tagg Tryd.prog 12 = some false := by kernel_rfl
@[simp] theorem tzero_12 : tzero Tryd.prog 12 = some (Value.int IntKind.u64 (Int.ofNat 0)) := by kernel_rfl
@[simp] theorem tplaces_12 : tplaces Tryd.prog 12 = none := by kernel_rfl
@[simp] theorem telem_12 : telem Tryd.prog 12 = none := by kernel_rfl
@[simp] theorem tint_12 : tint Tryd.prog 12 = some IntKind.u64 := by kernel_rfl
@[simp] theorem tsz_13 : tsz Tryd.prog 13 = some 2 := by kernel_rfl
@[simp] theorem tagg_13 : tagg Tryd.prog 13 = some true := by kernel_rfl
@[simp] theorem tzero_13 : tzero Tryd.prog 13 = some (Value.agg { toList := [Value.string { data := { toList := [] } }, Value.int IntKind.u64 (Int.ofNat 0)] }) := by kernel_rfl
@[simp] theorem tplaces_13 : tplaces Tryd.prog 13 = some [(0, 1), (1, 1)] := by kernel_rfl
@[simp] theorem telem_13 : telem Tryd.prog 13 = none := by kernel_rfl
@[simp] theorem tint_13 : tint Tryd.prog 13 = none := by kernel_rfl
@[simp] theorem tfld_13_0 : tfld Tryd.prog 13 0 = some (0, 9) := by kernel_rfl
@[simp] theorem tfld_13_1 : tfld Tryd.prog 13 1 = some (1, 12) := by kernel_rfl
@[simp] theorem tsz_14 : tsz Tryd.prog 14 = some 2 := by kernel_rfl
@[simp] theorem tagg_14 : tagg Tryd.prog 14 = some true := by kernel_rfl
@[simp] theorem tzero_14 : tzero Tryd.prog 14 = some (Value.agg { toList := [Value.string { data := { toList := [] } }, Value.int IntKind.u64 (Int.ofNat 0)] }) := by kernel_rfl
@[simp] theorem tplaces_14 : tplaces Tryd.prog 14 = some [(0, 1), (1, 1)] := by kernel_rfl
@[simp] theorem telem_14 : telem Tryd.prog 14 = none := by kernel_rfl
@[simp] theorem tint_14 : tint Tryd.prog 14 = none := by kernel_rfl
@[simp] theorem tfld_14_0 : tfld Tryd.prog 14 0 = some (0, 9) := by kernel_rfl
@[simp] theorem tfld_14_1 : tfld Tryd.prog 14 1 = some (1, 12) := by kernel_rfl
@[simp] theorem tsz_15 : tsz Tryd.prog 15 = some 1 := by kernel_rfl
@[simp] theorem tagg_15 : tagg Tryd.prog 15 = some false := by kernel_rfl
@[simp] theorem tzero_15 : tzero Tryd.prog 15 = some (Value.pointer none) := by kernel_rfl
@[simp] theorem tplaces_15 : tplaces Tryd.prog 15 = none := by kernel_rfl
@[simp] theorem telem_15 : telem Tryd.prog 15 = none := by kernel_rfl
@[simp] theorem tint_15 : tint Tryd.prog 15 = none := by kernel_rfl
@[simp] theorem tsz_16 : tsz Tryd.prog 16 = some 1 := by kernel_rfl
@[simp] theorem tagg_16 : tagg Tryd.prog 16 = some false := by kernel_rfl
@[simp] theorem tzero_16 : tzero Tryd.prog 16 = some (Value.pointer none) := by kernel_rfl
@[simp] theorem tplaces_16 : tplaces Tryd.prog 16 = none := by kernel_rfl
@[simp] theorem telem_16 : telem Tryd.prog 16 = none := by kernel_rfl
@[simp] theorem tint_16 : tint Tryd.prog 16 = none := by kernel_rfl
@[simp] theorem tsz_17 : tsz Tryd.prog 17 = some 1 := by kernel_rfl
@[simp] theorem tagg_17 : tagg Tryd.prog 17 = some false := by kernel_rfl
@[simp] theorem tzero_17 : tzero Tryd.prog 17 = some (Value.pointer none) := by kernel_rfl
@[simp] theorem tplaces_17 : tplaces Tryd.prog 17 = none := by kernel_rfl
@[simp] theorem telem_17 : telem Tryd.prog 17 = none := by kernel_rfl
@[simp] theorem tint_17 : tint Tryd.prog 17 = none := by kernel_rfl
@[simp] theorem tsz_18 : tsz Tryd.prog 18 = some 1 := by kernel_rfl
@[simp] theorem tagg_18 : tagg Tryd.prog 18 = some true := by kernel_rfl
@[simp] theorem tzero_18 : tzero Tryd.prog 18 = some (Value.agg { toList := [Value.pointer none] }) := by kernel_rfl
@[simp] theorem tplaces_18 : tplaces Tryd.prog 18 = some [(0, 1)] := by kernel_rfl
@[simp] theorem telem_18 : telem Tryd.prog 18 = none := by kernel_rfl
@[simp] theorem tint_18 : tint Tryd.prog 18 = none := by kernel_rfl
@[simp] theorem tfld_18_0 : tfld Tryd.prog 18 0 = some (0, 17) := by kernel_rfl
@[simp] theorem tsz_19 : tsz Tryd.prog 19 = some 1 := by kernel_rfl
@[simp] theorem tagg_19 : tagg Tryd.prog 19 = some true := by kernel_rfl
@[simp] theorem tzero_19 : tzero Tryd.prog 19 = some (Value.agg { toList := [Value.pointer none] }) := by kernel_rfl
@[simp] theorem tplaces_19 : tplaces Tryd.prog 19 = some [(0, 1)] := by kernel_rfl
@[simp] theorem telem_19 : telem Tryd.prog 19 = none := by kernel_rfl
@[simp] theorem tint_19 : tint Tryd.prog 19 = none := by kernel_rfl
@[simp] theorem tfld_19_0 : tfld Tryd.prog 19 0 = some (0, 17) := by kernel_rfl
@[simp] theorem tsz_20 : tsz Tryd.prog 20 = some 1 := by kernel_rfl
@[simp] theorem tagg_20 : tagg Tryd.prog 20 = some false := by kernel_rfl
@[simp] theorem tzero_20 : tzero Tryd.prog 20 = some Value.nilIface := by kernel_rfl
@[simp] theorem tplaces_20 : tplaces Tryd.prog 20 = none := by kernel_rfl
@[simp] theorem telem_20 : telem Tryd.prog 20 = none := by kernel_rfl
@[simp] theorem tint_20 : tint Tryd.prog 20 = none := by kernel_rfl
@[simp] theorem tsz_21 : tsz Tryd.prog 21 = some 1 := by kernel_rfl
@[simp] theorem tagg_21 : tagg Tryd.prog 21 = some false := by kernel_rfl
@[simp] theorem tzero_21 : tzero Tryd.prog 21 = some (Value.int IntKind.i32 (Int.ofNat 0)) := by kernel_rfl
@[simp] theorem tplaces_21 : tplaces Tryd.prog 21 = none := by kernel_rfl
@[simp] theorem telem_21 : telem Tryd.prog 21 = none := by kernel_rfl
@[simp] theorem tint_21 : tint Tryd.prog 21 = some IntKind.i32 := by kernel_rfl
@[simp] theorem tsz_22 : tsz Tryd.prog 22 = some 1 := by kernel_rfl
@[simp] theorem tagg_22 : tagg Tryd.prog 22 = some false := by kernel_rfl
@[simp] theorem tzero_22 : tzero Tryd.prog 22 = some (Value.int IntKind.i64 (Int.ofNat 0)) := by kernel_rfl
@[simp] theorem tplaces_22 : tplaces Tryd.prog 22 = none := by kernel_rfl
@[simp] theorem telem_22 : telem Tryd.prog 22 = none := by kernel_rfl
@[simp] theorem tint_22 : tint Tryd.prog 22 = some IntKind.i64 := by kernel_rfl
@[simp] theorem tsz_23 : tsz Tryd.prog 23 = some 1 := by kernel_rfl
@[simp] theorem tagg_23 : tagg Tryd.prog 23 = some false := by kernel_rfl
@[simp] theorem tzero_23 : tzero Tryd.prog 23 = some (Value.slice none 0 0) := by kernel_rfl
@[simp] theorem tplaces_23 : tplaces Tryd.prog 23 = none := by kernel_rfl
@[simp] theorem telem_23 : telem Tryd.prog 23 = some (none, 9, 1) := by kernel_rfl
@[simp] theorem tint_23 : tint Tryd.prog 23 = none := by kernel_rfl
@[simp] theorem tsz_24 : tsz Tryd.prog 24 = some 1 := by kernel_rfl
@[simp] theorem tagg_24 : tagg Tryd.prog 24 = some false := by kernel_rfl
@[simp] theorem tzero_24 : tzero Tryd.prog 24 = some Value.nilFunc := by kernel_rfl
@[simp] theorem tplaces_24 : tplaces Tryd.prog 24 = none := by kernel_rfl
@[simp] theorem telem_24 : telem Tryd.prog 24 = none := by kernel_rfl
@[simp] theorem tint_24 : tint Tryd.prog 24 = none := by kernel_rfl
@[simp] theorem tsz_25 : tsz Tryd.prog 25 = some 1 := by kernel_rfl
@[simp] theorem tagg_25 : tagg Tryd.prog 25 = some false := by kernel_rfl
@[simp] theorem tzero_25 : tzero Tryd.prog 25 = some Value.nilFunc := by kernel_rfl
@[simp] theorem tplaces_25 : tplaces Tryd.prog 25 = none := by kernel_rfl
@[simp] theorem telem_25 : telem Tryd.prog 25 = none := by kernel_rfl
@[simp] theorem tint_25 : tint Tryd.prog 25 = none := by kernel_rfl
@[simp] theorem tsz_26 : tsz Tryd.prog 26 = some 1 := by kernel_rfl
@[simp] theorem tagg_26 : tagg Tryd.prog 26 = some false := by kernel_rfl
@[simp] theorem tzero_26 : tzero Tryd.prog 26 = some Value.nilIface := by kernel_rfl
@[simp] theorem tplaces_26 : tplaces Tryd.prog 26 = none := by kernel_rfl
@[simp] theorem telem_26 : telem Tryd.prog 26 = none := by kernel_rfl
@[simp] theorem tint_26 : tint Tryd.prog 26 = none := by kernel_rfl
@[simp] theorem tsz_27 : tsz Tryd.prog 27 = some 1 := by kernel_rfl
@[simp] theorem tagg_27 : tagg Tryd.prog 27 = some false := by kernel_rfl
@[simp] theorem tzero_27 : tzero Tryd.prog 27 = some Value.nilIface := by kernel_rfl
@[simp] theorem tplaces_27 : tplaces Tryd.prog 27 = none := by kernel_rfl
@[simp] theorem telem_27 : telem Tryd.prog 27 = none := by kernel_rfl
@[simp] theorem tint_27 : tint Tryd.prog 27 = none := by kernel_rfl
@[simp] theorem tsz_28 : tsz Tryd.prog 28 = some 1 := by kernel_rfl
@[simp] theorem tagg_28 : tagg Tryd.prog 28 = some false := by kernel_rfl
@[simp] theorem tzero_28 : tzero Tryd.prog 28 = some Value.nilFunc := by kernel_rfl
@[simp] theorem tplaces_28 : tplaces Tryd.prog 28 = none := by kernel_rfl
@[simp] theorem telem_28 : telem Tryd.prog 28 = none := by kernel_rfl
@[simp] theorem tint_28 : tint Tryd.prog 28 = none := by kernel_rfl
@[simp] theorem tsz_29 : tsz Tryd.prog 29 = some 2 := by kernel_rfl
@[simp] theorem tagg_29 : tagg Tryd.prog 29 = some true := by kernel_rfl
@[simp] theorem tzero_29 : tzero Tryd.prog 29 = some (Value.agg { toList := [Value.int IntKind.i64 (Int.ofNat 0), Value.int IntKind.i64 (Int.ofNat 0)] }) := by kernel_rfl
@[simp] theorem tplaces_29 : tplaces Tryd.prog 29 = some [(0, 1), (1, 1)] := by kernel_rfl
@[simp] theorem telem_29 : telem Tryd.prog 29 = none := by kernel_rfl
@[simp] theorem tint_29 : tint Tryd.prog 29 = none := by kernel_rfl
@[simp] theorem tfld_29_0 : tfld Tryd.prog 29 0 = some (0, 22) := by kernel_rfl
@[simp] theorem tfld_29_1 : tfld Tryd.prog 29 1 = some (1, 3) := by kernel_rfl
@[simp] theorem tsz_30 : tsz Tryd.prog 30 = some 2 := by kernel_rfl
@[simp] theorem tagg_30 : tagg Tryd.prog 30 = some true := by kernel_rfl
@[simp] theorem tzero_30 : tzero Tryd.prog 30 = some (Value.agg { toList := [Value.int IntKind.i64 (Int.ofNat 0), Value.int IntKind.i64 (Int.ofNat 0)] }) := by kernel_rfl
@[simp] theorem tplaces_30 : tplaces Tryd.prog 30 = some [(0, 1), (1, 1)] := by kernel_rfl
@[simp] theorem telem_30 : telem Tryd.prog 30 = none := by kernel_rfl
@[simp] theorem tint_30 : tint Tryd.prog 30 = none := by kernel_rfl
@[simp] theorem tfld_30_0 : tfld Tryd.prog 30 0 = some (0, 22) := by kernel_rfl
@[simp] theorem tfld_30_1 : tfld Tryd.prog 30 1 = some (1, 3) := by kernel_rfl
@[simp] theorem tsz_31 : tsz Tryd.prog 31 = some 4 := by kernel_rfl
@[simp] theorem tagg_31 : tagg Tryd.prog 31 = some true := by kernel_rfl
@[simp] theorem tzero_31 : tzero Tryd.prog 31 = some (Value.agg { toList := [Value.bool false, Value.int IntKind.i64 (Int.ofNat 0), Value.int IntKind.i64 (Int.ofNat 0), Value.slice none 0 0] }) := by kernel_rfl
@[simp] theorem tplaces_31 : tplaces Tryd.prog 31 = some [(0, 1), (1, 2), (3, 1)] := by kernel_rfl
@[simp] theorem telem_31 : telem Tryd.prog 31 = none := by kernel_rfl
@[simp] theorem tint_31 : tint Tryd.prog 31 = none := by kernel_rfl
@[simp] theorem tfld_31_0 : tfld Tryd.prog 31 0 = some (0, 4) := by kernel_rfl
@[simp] theorem tfld_31_1 : tfld Tryd.prog 31 1 = some (1, 30) := by kernel_rfl
@[simp] theorem tfld_31_2 : tfld Tryd.prog 31 2 = some (3, 23) := by kernel_rfl
@[simp] theorem tsz_32 : tsz Tryd.prog 32 = some 4 := by kernel_rfl
@[simp] theorem tagg_32 : tagg Tryd.prog 32 = some true := by kernel_rfl
@[simp] theorem tzero_32 : tzero Tryd.prog 32 = some (Value.agg { toList := [Value.bool false, Value.int IntKind.i64 (Int.ofNat 0), Value.int IntKind.i64 (Int.ofNat 0), Value.slice none 0 0] }) := by kernel_rfl
@[simp] theorem tplaces_32 : tplaces Tryd.prog 32 = some [(0, 1), (1, 2), (3, 1)] := by kernel_rfl
@[simp] theorem telem_32 : telem Tryd.prog 32 = none := by kernel_rfl
@[simp] theorem tint_32 : tint Tryd.prog 32 = none := by kernel_rfl
@[simp] theorem tfld_32_0 : tfld Tryd.prog 32 0 = some (0, 4) := by kernel_rfl
@[simp] theorem tfld_32_1 : tfld Tryd.prog 32 1 = some (1, 30) := by kernel_rfl
@[simp] theorem tfld_32_2 : tfld Tryd.prog 32 2 = some (3, 23) := by kernel_rfl
@[simp] theorem tsz_33 : tsz Tryd.prog 33 = some 1 := by kernel_rfl
@[simp] theorem tagg_33 : tagg Tryd.prog 33 = some false := by kernel_rfl
@[simp] theorem tzero_33 : tzero Tryd.prog 33 = some Value.nilFunc := by kernel_rfl
@[simp] theorem tplaces_33 : tplaces Tryd.prog 33 = none := by kernel_rfl
@[simp] theorem telem_33 : telem Tryd.prog 33 = none := by kernel_rfl
@[simp] theorem tint_33 : tint Tryd.prog 33 = none := by kernel_rfl
@[simp] theorem tsz_34 : tsz Tryd.prog 34 = some 1 := by kernel_rfl
@[simp] theorem tagg_34 : tagg Tryd.prog 34 = some false := by kernel_rfl
@[simp] theorem tzero_34 : tzero Tryd.prog 34 = some (Value.tuple { toList := [Value.agg { toList := [Value.int IntKind.i64 (Int.ofNat 0), Value.int IntKind.i64 (Int.ofNat 0)] }, Value.bool false] }) := by kernel_rfl
@[simp] theorem tplaces_34 : tplaces Tryd.prog 34 = none := by kernel_rfl
@[simp] theorem telem_34 : telem Tryd.prog 34 = none := by kernel_rfl
@[simp] theorem tint_34 : tint Tryd.prog 34 = none := by kernel_rfl
@[simp] theorem tsz_35 : tsz Tryd.prog 35 = some 1 := by kernel_rfl
@[simp] theorem tagg_35 : tagg Tryd.prog 35 = some false := by kernel_rfl
@[simp] theorem tzero_35 : tzero Tryd.prog 35 = some Value.nilFunc := by kernel_rfl
@[simp] theorem tplaces_35 : tplaces Tryd.prog 35 = none := by kernel_rfl
@[simp] theorem telem_35 : telem Tryd.prog 35 = none := by kernel_rfl
@[simp] theorem tint_35 : tint Tryd.prog 35 = none := by kernel_rfl
@[simp] theorem tsz_36 : tsz Tryd.prog 36 = some 1 := by kernel_rfl
@[simp] theorem tagg_36 : tagg Tryd.prog 36 = some false := by kernel_rfl
@[simp] theorem tzero_36 : tzero Tryd.prog 36 = some Value.nilFunc := by kernel_rfl
@[simp] theorem tplaces_36 : tplaces Tryd.prog 36 = none := by kernel_rfl
@[simp] theorem telem_36 : telem Tryd.prog 36 = none := by kernel_rfl
@[simp] theorem tint_36 : tint Tryd.prog 36 = none := by kernel_rfl
@[simp] theorem tsz_37 : tsz Tryd.prog 37 = some 1 := by kernel_rfl
@[simp] theorem tagg_37 : tagg Tryd.prog 37 = some false := by kernel_rfl
@[simp] theorem tzero_37 : tzero Tryd.prog 37 = some Value.nilFunc := by kernel_rfl
@[simp] theorem tplaces_37 : tplaces Tryd.prog 37 = none := by kernel_rfl
@[simp] theorem telem_37 : telem Tryd.prog 37 = none := by kernel_rfl
@[simp] theorem tint_37 : tint Tryd.prog 37 = none := by kernel_rfl
@[simp] theorem tsz_38 : tsz Tryd.prog 38 = some 1 := by kernel_rfl
@[simp] theorem tagg_38 : tagg Tryd.prog 38 = some false := by kernel_rfl
@[simp] theorem tzero_38 : tzero Tryd.prog 38 = some Value.nilFunc := by kernel_rfl
@[simp] theorem tplaces_38 : tplaces Tryd.prog 38 = none := by kernel_rfl
@[simp] theorem telem_38 : telem Tryd.prog 38 = none := by kernel_rfl
@[simp] theorem tint_38 : tint Tryd.prog 38 = none := by kernel_rfl
@[simp] theorem tsz_39 : tsz Tryd.prog 39 = some 1 := by kernel_rfl
@[simp] theorem tagg_39 : tagg Tryd.prog 39 = some false := by kernel_rfl
@[simp] theorem tzero_39 : tzero Tryd.prog 39 = some Value.nilFunc := by kernel_rfl
@[simp] theorem tplaces_39 : tplaces Tryd.prog 39 = none := by kernel_rfl
@[simp] theorem telem_39 : telem Tryd.prog 39 = none := by kernel_rfl
@[simp] theorem tint_39 : tint Tryd.prog 39 = none := by kernel_rfl
@[simp] theorem tsz_40 : tsz Tryd.prog 40 = some 1 := by kernel_rfl
@[simp] theorem tagg_40 : tagg Tryd.prog 40 = some false := by kernel_rfl
@[simp] theorem tzero_40 : tzero Tryd.prog 40 = some Value.nilFunc := by kernel_rfl
@[simp] theorem tplaces_40 : tplaces Tryd.prog 40 = none := by kernel_rfl
@[simp] theorem telem_40 : telem Tryd.prog 40 = none := by kernel_rfl
@[simp] theorem tint_40 : tint Tryd.prog 40 = none := by kernel_rfl
@[simp] theorem tsz_41 : tsz Tryd.prog 41 = some 1 := by kernel_rfl
@[simp] theorem tagg_41 : tagg Tryd.prog 41 = some false := by kernel_rfl
@[simp] theorem tzero_41 : tzero Tryd.prog 41 = some Value.nilFunc := by kernel_rfl
@[simp] theorem tplaces_41 : tplaces Tryd.prog 41 = none := by kernel_rfl
@[simp] theorem telem_41 : telem Tryd.prog 41 = none := by kernel_rfl
@[simp] theorem tint_41 : tint Tryd.prog 41 = none := by kernel_rfl
@[simp] theorem tsz_42 : tsz Tryd.prog 42 = some 1 := by kernel_rfl
@[simp] theorem tagg_42 : tagg Tryd.prog 42 = some false := by kernel_rfl
@[simp] theorem tzero_42 : tzero Tryd.prog 42 = some Value.nilFunc := by kernel_rfl
@[simp] theorem tplaces_42 : tplaces Tryd.prog 42 = none := by kernel_rfl
@[simp] theorem telem_42 : telem Tryd.prog 42 = none := by kernel_rfl
@[simp] theorem tint_42 : tint Tryd.prog 42 = none := by kernel_rfl
@[simp] theorem tsz_43 : tsz Tryd.prog 43 = some 1 := by kernel_rfl
@[simp] theorem tagg_43 : tagg Tryd.prog 43 = some false := by kernel_rfl
@[simp] theorem tzero_43 : tzero Tryd.prog 43 = some Value.nilFunc := by kernel_rfl
@[simp] theorem tplaces_43 : tplaces Tryd.prog 43 = none := by kernel_rfl
@[simp] theorem telem_43 : telem Tryd.prog 43 = none := by kernel_rfl
@[simp] theorem tint_43 : tint Tryd.prog 43 = none := by kernel_rfl
@[simp] theorem tsz_44 : tsz Tryd.prog 44 = some 1 := by kernel_rfl
@[simp] theorem tagg_44 : tagg Tryd.prog 44 = some false := by kernel_rfl
@[simp] theorem tzero_44 : tzero Tryd.prog 44 = some (Value.slice none 0 0) := by kernel_rfl
@[simp] theorem tplaces_44 : tplaces Tryd.prog 44 = none := by kernel_rfl
@[simp] theorem telem_44 : telem Tryd.prog 44 = some (none, 22, 1) := by kernel_rfl
@[simp] theorem tint_44 : tint Tryd.prog 44 = none := by kernel_rfl
@[simp] theorem tsz_45 : tsz Tryd.prog 45 = some 24 := by kernel_rfl
@[simp] theorem tagg_45 : tagg Tryd.prog 45 = some true := by kernel_rfl
@[simp] theorem tzero_45 : tzero Tryd.prog 45 = some
  (Value.agg
    {
      toList :=
        [Value.int IntKind.i64 (Int.ofNat 0), Value.int IntKind.i64 (Int.ofNat 0), Value.int IntKind.i64 (Int.ofNat 0), Value.int IntKind.i64 (Int.ofNat 0), Value.int IntKind.i64 (Int.ofNat 0),
          Value.int IntKind.i64 (Int.ofNat 0), Value.int IntKind.i64 (Int.ofNat 0), Value.int IntKind.i64 (Int.ofNat 0), Value.int IntKind.i64 (Int.ofNat 0), Value.int IntKind.i64 (Int.ofNat 0),
          Value.int IntKind.i64 (Int.ofNat 0), Value.int IntKind.i64 (Int.ofNat 0), Value.int IntKind.i64 (Int.ofNat 0), Value.int IntKind.i64 (Int.ofNat 0), Value.int IntKind.i64 (Int.ofNat 0),
          Value.int IntKind.i64 (Int.ofNat 0), Value.int IntKind.i64 (Int.ofNat 0), Value.int IntKind.i64 (Int.ofNat 0), Value.int IntKind.i64 (Int.ofNat 0), Value.int IntKind.i64 (Int.ofNat 0),
          Value.int IntKind.i64 (Int.ofNat 0), Value.int IntKind.i64 (Int.ofNat 0), Value.int IntKind.i64 (Int.ofNat 0), Value.int IntKind.i64 (Int.ofNat 0)] }) := by kernel_rfl
@[simp] theorem tplaces_45 : tplaces Tryd.prog 45 = none := by kernel_rfl
@[simp] theorem telem_45 : telem Tryd.prog 45 = some (some 12, 30, 2) := by kernel_rfl
@[simp] theorem tint_45 : tint Tryd.prog 45 = none := by kernel_rfl
@[simp] theorem tsz_46 : tsz Tryd.prog 46 = some 24 := by kernel_rfl
@[simp] theorem tagg_46 : tagg Tryd.prog 46 = some true := by kernel_rfl
@[simp] theorem tzero_46 : tzero Tryd.prog 46 = some
  (Value.agg
    {
      toList :=
        [Value.int IntKind.i64 (Int.ofNat 0), Value.int IntKind.i64 (Int.ofNat 0), Value.int IntKind.i64 (Int.ofNat 0), Value.int IntKind.i64 (Int.ofNat 0), Value.int IntKind.i64 (Int.ofNat 0),
          Value.int IntKind.i64 (Int.ofNat 0), Value.int IntKind.i64 (Int.ofNat 0), Value.int IntKind.i64 (Int.ofNat 0), Value.int IntKind.i64 (Int.ofNat 0), Value.int IntKind.i64 (Int.ofNat 0),
          Value.int IntKind.i64 (Int.ofNat 0), Value.int IntKind.i64 (Int.ofNat 0), Value.int IntKind.i64 (Int.ofNat 0), Value.int IntKind.i64 (Int.ofNat 0), Value.int IntKind.i64 (Int.ofNat 0),
          Value.int IntKind.i64 (Int.ofNat 0), Value.int IntKind.i64 (Int.ofNat 0), Value.int IntKind.i64 (Int.ofNat 0), Value.int IntKind.i64 (Int.ofNat 0), Value.int IntKind.i64 (Int.ofNat 0),
          Value.int IntKind.i64 (Int.ofNat 0), Value.int IntKind.i64 (Int.ofNat 0), Value.int IntKind.i64 (Int.ofNat 0), Value.int IntKind.i64 (Int.ofNat 0)] }) := by kernel_rfl
@[simp] theorem tplaces_46 : tplaces Tryd.prog 46 = some [(0, 24)] := by kernel_rfl
@[simp] theorem telem_46 : telem Tryd.prog 46 = none := by kernel_rfl
@[simp] theorem tint_46 : tint Tryd.prog 46 = none := by kernel_rfl
@[simp] theorem tfld_46_0 : tfld Tryd.prog 46 0 = some (0, 45) := by kernel_rfl
@[simp] theorem tsz_47 : tsz Tryd.prog 47 = some 24 := by kernel_rfl
@[simp] theorem tagg_47 : tagg Tryd.prog 47 = some true := by kernel_rfl
@[simp] theorem tzero_47 : tzero Tryd.prog 47 = some
  (Value.agg
    {
      toList :=
        [Value.int IntKind.i64 (Int.ofNat 0), Value.int IntKind.i64 (Int.ofNat 0), Value.int IntKind.i64 (Int.ofNat 0), Value.int IntKind.i64 (Int.ofNat 0), Value.int IntKind.i64 (Int.ofNat 0),
          Value.int IntKind.i64 (Int.ofNat 0), Value.int IntKind.i64 (Int.ofNat 0), Value.int IntKind.i64 (Int.ofNat 0), Value.int IntKind.i64 (Int.ofNat 0), Value.int IntKind.i64 (Int.ofNat 0),
          Value.int IntKind.i64 (Int.ofNat 0), Value.int IntKind.i64 (Int.ofNat 0), Value.int IntKind.i64 (Int.ofNat 0), Value.int IntKind.i64 (Int.ofNat 0), Value.int IntKind.i64 (Int.ofNat 0),
          Value.int IntKind.i64 (Int.ofNat 0), Value.int IntKind.i64 (Int.ofNat 0), Value.int IntKind.i64 (Int.ofNat 0), Value.int IntKind.i64 (Int.ofNat 0), Value.int IntKind.i64 (Int.ofNat 0),
          Value.int IntKind.i64 (Int.ofNat 0), Value.int IntKind.i64 (Int.ofNat 0), Value.int IntKind.i64 (Int.ofNat 0), Value.int IntKind.i64 (Int.ofNat 0)] }) := by kernel_rfl
@[simp] theorem tplaces_47 : tplaces Tryd.prog 47 = some [(0, 24)] := by kernel_rfl
@[simp] theorem telem_47 : telem Tryd.prog 47 = none := by kernel_rfl
@[simp] theorem tint_47 : tint Tryd.prog 47 = none := by kernel_rfl
@[simp] theorem tfld_47_0 : tfld Tryd.prog 47 0 = some (0, 45) := by kernel_rfl
@[simp] theorem tsz_48 : tsz Tryd.prog 48 = some 1 := by kernel_rfl
@[simp] theorem tagg_48 : tagg Tryd.prog 48 = some false := by kernel_rfl
@[simp] theorem tzero_48 : tzero Tryd.prog 48 = some Value.nilFunc := by kernel_rfl
@[simp] theorem tplaces_48 : tplaces Tryd.prog 48 = none := by kernel_rfl
@[simp] theorem telem_48 : telem Tryd.prog 48 = none := by kernel_rfl
@[simp] theorem tint_48 : tint Tryd.prog 48 = none := by kernel_rfl
@[simp] theorem tsz_49 : tsz Tryd.prog 49 = some 1 := by kernel_rfl
@[simp] theorem tagg_49 : tagg Tryd.prog 49 = some false := by kernel_rfl
@[simp] theorem tzero_49 : tzero Tryd.prog 49 = some (Value.slice none 0 0) := by kernel_rfl
@[simp] theorem tplaces_49 : tplaces Tryd.prog 49 = none := by kernel_rfl
@[simp] theorem telem_49 : telem Tryd.prog 49 = some (none, 30, 2) := by kernel_rfl
@[simp] theorem tint_49 : tint Tryd.prog 49 = none := by kernel_rfl
@[simp] theorem tsz_50 : tsz Tryd.prog 50 = some 1 := by kernel_rfl
@[simp] theorem tagg_50 : tagg Tryd.prog 50 = some false := by kernel_rfl
@[simp] theorem tzero_50 : tzero Tryd.prog 50 = some Value.nilFunc := by kernel_rfl
@[simp] theorem tplaces_50 : tplaces Tryd.prog 50 = none := by kernel_rfl
@[simp] theorem telem_50 : telem Tryd.prog 50 = none := by kernel_rfl
@[simp] theorem tint_50 : tint Tryd.prog 50 = none := by kernel_rfl
@[simp] theorem tsz_51 : tsz Tryd.prog 51 = some 1 := by kernel_rfl
@[simp] theorem tagg_51 : tagg Tryd.prog 51 = some false := by kernel_rfl
@[simp] theorem tzero_51 : tzero Tryd.prog 51 = some Value.nilFunc := by kernel_rfl
@[simp] theorem tplaces_51 : tplaces Tryd.prog 51 = none := by kernel_rfl
@[simp] theorem telem_51 : telem Tryd.prog 51 = none := by kernel_rfl
@[simp] theorem tint_51 : tint Tryd.prog 51 = none := by kernel_rfl
@[simp] theorem tsz_52 : tsz Tryd.prog 52 = some 1 := by kernel_rfl
@[simp] theorem tagg_52 : tagg Tryd.prog 52 = some false := by kernel_rfl
@[simp] theorem tzero_52 : tzero Tryd.prog 52 = some Value.nilFunc := by kernel_rfl
@[simp] theorem tplaces_52 : tplaces Tryd.prog 52 = none := by kernel_rfl
@[simp] theorem telem_52 : telem Tryd.prog 52 = none := by kernel_rfl
@[simp] theorem tint_52 : tint Tryd.prog 52 = none := by kernel_rfl
@[simp] theorem tsz_53 : tsz Tryd.prog 53 = some 1 := by kernel_rfl
@[simp] theorem tagg_53 : tagg Tryd.prog 53 = some false := by kernel_rfl
@[simp] theorem tzero_53 : tzero Tryd.prog 53 = some (Value.slice none 0 0) := by kernel_rfl
@[simp] theorem tplaces_53 : tplaces Tryd.prog 53 = none := by kernel_rfl
@[simp] theorem telem_53 : telem Tryd.prog 53 = some (none, 55, 4) := by kernel_rfl
@[simp] theorem tint_53 : tint Tryd.prog 53 = none := by kernel_rfl
@[simp] theorem tsz_54 : tsz Tryd.prog 54 = some 4 := by kernel_rfl
@[simp] theorem tagg_54 : tagg Tryd.prog 54 = some true := by kernel_rfl
@[simp] theorem tzero_54 : tzero Tryd.prog 54 = some (Value.agg { toList := [Value.int IntKind.i64 (Int.ofNat 0), Value.int IntKind.i64 (Int.ofNat 0), Value.int IntKind.i64 (Int.ofNat 0), Value.slice none 0 0] }) := by kernel_rfl
@[simp] theorem tplaces_54 : tplaces Tryd.prog 54 = some [(0, 1), (1, 1), (2, 1), (3, 1)] := by kernel_rfl
@[simp] theorem telem_54 : telem Tryd.prog 54 = none := by kernel_rfl
@[simp] theorem tint_54 : tint Tryd.prog 54 = none := by kernel_rfl
@[simp] theorem tfld_54_0 : tfld Tryd.prog 54 0 = some (0, 3) := by kernel_rfl
@[simp] theorem tfld_54_1 : tfld Tryd.prog 54 1 = some (1, 22) := by kernel_rfl
@[simp] theorem tfld_54_2 : tfld Tryd.prog 54 2 = some (2, 3) := by kernel_rfl
@[simp] theorem tfld_54_3 : tfld Tryd.prog 54 3 = some (3, 23) := by kernel_rfl
@[simp] theorem tsz_55 : tsz Tryd.prog 55 = some 4 := by kernel_rfl
@[simp] theorem tagg_55 : tagg Tryd.prog 55 = some true := by kernel_rfl
@[simp] theorem tzero_55 : tzero Tryd.prog 55 = some (Value.agg { toList := [Value.int IntKind.i64 (Int.ofNat 0), Value.int IntKind.i64 (Int.ofNat 0), Value.int IntKind.i64 (Int.ofNat 0), Value.slice none 0 0] }) := by kernel_rfl
@[simp] theorem tplaces_55 : tplaces Tryd.prog 55 = some [(0, 1), (1, 1), (2, 1), (3, 1)] := by kernel_rfl
@[simp] theorem telem_55 : telem Tryd.prog 55 = none := by kernel_rfl
@[simp] theorem tint_55 : tint Tryd.prog 55 = none := by kernel_rfl
@[simp] theorem tfld_55_0 : tfld Tryd.prog 55 0 = some (0, 3) := by kernel_rfl
@[simp] theorem tfld_55_1 : tfld Tryd.prog 55 1 = some (1, 22) := by kernel_rfl
@[simp] theorem tfld_55_2 : tfld Tryd.prog 55 2 = some (2, 3) := by kernel_rfl
@[simp] theorem tfld_55_3 : tfld Tryd.prog 55 3 = some (3, 23) := by kernel_rfl
@[simp] theorem tsz_56 : tsz Tryd.prog 56 = some 1 := by kernel_rfl
@[simp] theorem tagg_56 : tagg Tryd.prog 56 = some false := by kernel_rfl
@[simp] theorem tzero_56 : tzero Tryd.prog 56 = some (Value.tuple { toList := [Value.slice none 0 0, Value.bool false] }) := by kernel_rfl
@[simp] theorem tplaces_56 : tplaces Tryd.prog 56 = none := by kernel_rfl
@[simp] theorem telem_56 : telem Tryd.prog 56 = none := by kernel_rfl
@[simp] theorem tint_56 : tint Tryd.prog 56 = none := by kernel_rfl
@[simp] theorem tsz_57 : tsz Tryd.prog 57 = some 1 := by kernel_rfl
@[simp] theorem tagg_57 : tagg Tryd.prog 57 = some false := by kernel_rfl
@[simp] theorem tzero_57 : tzero Tryd.prog 57 = some Value.nilFunc := by kernel_rfl
@[simp] theorem tplaces_57 : tplaces Tryd.prog 57 = none := by kernel_rfl
@[simp] theorem telem_57 : telem Tryd.prog 57 = none := by kernel_rfl
@[simp] theorem tint_57 : tint Tryd.prog 57 = none := by kernel_rfl
@[simp] theorem tsz_58 : tsz Tryd.prog 58 = some 1 := by kernel_rfl
@[simp] theorem tagg_58 : tagg Tryd.prog 58 = some false := by kernel_rfl
@[simp] theorem tzero_58 : tzero Tryd.prog 58 = some Value.nilFunc := by kernel_rfl
@[simp] theorem tplaces_58 : tplaces Tryd.prog 58 = none := by kernel_rfl
@[simp] theorem telem_58 : telem Tryd.prog 58 = none := by kernel_rfl
@[simp] theorem tint_58 : tint Tryd.prog 58 = none := by kernel_rfl
@[simp] theorem tsz_59 : tsz Tryd.prog 59 = some 1 := by kernel_rfl
@[simp] theorem tagg_59 : tagg Tryd.prog 59 = some false := by kernel_rfl
@[simp] theorem tzero_59 : tzero Tryd.prog 59 = some Value.nilFunc := by kernel_rfl
@[simp] theorem tplaces_59 : tplaces Tryd.prog 59 = none := by kernel_rfl
@[simp] theorem telem_59 : telem Tryd.prog 59 = none := by kernel_rfl
@[simp] theorem tint_59 : tint Tryd.prog 59 = none := by kernel_rfl
@[simp] theorem tsz_60 : tsz Tryd.prog 60 = some 1 := by kernel_rfl
@[simp] theorem tagg_60 : tagg Tryd.prog 60 = some false := by kernel_rfl
@[simp] theorem tzero_60 : tzero Tryd.prog 60 = some Value.nilFunc := by kernel_rfl
@[simp] theorem tplaces_60 : tplaces Tryd.prog 60 = none := by kernel_rfl
@[simp] theorem telem_60 : telem Tryd.prog 60 = none := by kernel_rfl
@[simp] theorem tint_60 : tint Tryd.prog 60 = none := by kernel_rfl
@[simp] theorem tsz_61 : tsz Tryd.prog 61 = some 1 := by kernel_rfl
@[simp] theorem tagg_61 : tagg Tryd.prog 61 = some false := by kernel_rfl
@[simp] theorem tzero_61 : tzero Tryd.prog 61 = some Value.nilFunc := by kernel_rfl
@[simp] theorem tplaces_61 : tplaces Tryd.prog 61 = none := by kernel_rfl
@[simp] theorem telem_61 : telem Tryd.prog 61 = none := by kernel_rfl
@[simp] theorem tint_61 : tint Tryd.prog 61 = none := by kernel_rfl
@[simp] theorem tsz_62 : tsz Tryd.prog 62 = some 1 := by kernel_rfl
@[simp] theorem tagg_62 : tagg Tryd.prog 62 = some false := by kernel_rfl
@[simp] theorem tzero_62 : tzero Tryd.prog 62 = some Value.nilFunc := by kernel_rfl
@[simp] theorem tplaces_62 : tplaces Tryd.prog 62 = none := by kernel_rfl
@[simp] theorem telem_62 : telem Tryd.prog 62 = none := by kernel_rfl
@[simp] theorem tint_62 : tint Tryd.prog 62 = none := by kernel_rfl
@[simp] theorem tsz_63 : tsz Tryd.prog 63 = some 1 := by kernel_rfl
@[simp] theorem tagg_63 : tagg Tryd.prog 63 = some false := by kernel_rfl
@[simp] theorem tzero_63 : tzero Tryd.prog 63 = some Value.nilFunc := by kernel_rfl
@[simp] theorem tplaces_63 : tplaces Tryd.prog 63 = none := by kernel_rfl
@[simp] theorem telem_63 : telem Tryd.prog 63 = none := by kernel_rfl
@[simp] theorem tint_63 : tint Tryd.prog 63 = none := by kernel_rfl
@[simp] theorem tsz_64 : tsz Tryd.prog 64 = some 2 := by kernel_rfl
@[simp] theorem tagg_64 : tagg Tryd.prog 64 = some true := by kernel_rfl
@[simp] theorem tzero_64 : tzero Tryd.prog 64 = some (Value.agg { toList := [Value.int IntKind.i64 (Int.ofNat 0), Value.int IntKind.i64 (Int.ofNat 0)] }) := by kernel_rfl
@[simp] theorem tplaces_64 : tplaces Tryd.prog 64 = some [(0, 2)] := by kernel_rfl
@[simp] theorem telem_64 : telem Tryd.prog 64 = none := by kernel_rfl
@[simp] theorem tint_64 : tint Tryd.prog 64 = none := by kernel_rfl
@[simp] theorem tfld_64_0 : tfld Tryd.prog 64 0 = some (0, 30) := by kernel_rfl
@[simp] theorem tsz_65 : tsz Tryd.prog 65 = some 2 := by kernel_rfl
@[simp] theorem tagg_65 : tagg Tryd.prog 65 = some true := by kernel_rfl
@[simp] theorem tzero_65 : tzero Tryd.prog 65 = some (Value.agg { toList := [Value.int IntKind.i64 (Int.ofNat 0), Value.int IntKind.i64 (Int.ofNat 0)] }) := by kernel_rfl
@[simp] theorem tplaces_65 : tplaces Tryd.prog 65 = some [(0, 2)] := by kernel_rfl
@[simp] theorem telem_65 : telem Tryd.prog 65 = none := by kernel_rfl
@[simp] theorem tint_65 : tint Tryd.prog 65 = none := by kernel_rfl
@[simp] theorem tfld_65_0 : tfld Tryd.prog 65 0 = some (0, 30) := by kernel_rfl
@[simp] theorem tsz_66 : tsz Tryd.prog 66 = some 1 := by kernel_rfl
@[simp] theorem tagg_66 : tagg Tryd.prog 66 = some false := by kernel_rfl
@[simp] theorem tzero_66 : tzero Tryd.prog 66 = some Value.nilFunc := by kernel_rfl
@[simp] theorem tplaces_66 : tplaces Tryd.prog 66 = none := by kernel_rfl
@[simp] theorem telem_66 : telem Tryd.prog 66 = none := by kernel_rfl
@[simp] theorem tint_66 : tint Tryd.prog 66 = none := by kernel_rfl
@[simp] theorem tsz_67 : tsz Tryd.prog 67 = some 1 := by kernel_rfl
@[simp] theorem tagg_67 : tagg Tryd.prog 67 = some false := by kernel_rfl
@[simp] theorem tzero_67 : tzero Tryd.prog 67 = some (Value.pointer none) := by kernel_rfl
@[simp] theorem tplaces_67 : tplaces Tryd.prog 67 = none := by kernel_rfl
@[simp] theorem telem_67 : telem Tryd.prog 67 = none := by kernel_rfl
@[simp] theorem tint_67 : tint Tryd.prog 67 = none := by kernel_rfl
@[simp] theorem tsz_68 : tsz Tryd.prog 68 = some 1 := by kernel_rfl
@[simp] theorem tagg_68 : tagg Tryd.prog 68 = some false := by kernel_rfl
@[simp] theorem tzero_68 : tzero Tryd.prog 68 = some Value.nilFunc := by kernel_rfl
@[simp] theorem tplaces_68 : tplaces Tryd.prog 68 = none := by kernel_rfl
@[simp] theorem telem_68 : telem Tryd.prog 68 = none := by kernel_rfl
@[simp] theorem tint_68 : tint Tryd.prog 68 = none := by kernel_rfl
@[simp] theorem tsz_69 : tsz Tryd.prog 69 = some 2 := by kernel_rfl
@[simp] theorem tagg_69 : tagg Tryd.prog 69 = some true := by kernel_rfl
@[simp] theorem tzero_69 : tzero Tryd.prog 69 = some (Value.agg { toList := [Value.string { data := { toList := [] } }, Value.nilIface] }) := by kernel_rfl
@[simp] theorem tplaces_69 : tplaces Tryd.prog 69 = some [(0, 1), (1, 1)] := by kernel_rfl
@[simp] theorem telem_69 : telem Tryd.prog 69 = none := by kernel_rfl
@[simp] theorem tint_69 : tint Tryd.prog 69 = none := by kernel_rfl
@[simp] theorem tfld_69_0 : tfld Tryd.prog 69 0 = some (0, 9) := by kernel_rfl
@[simp] theorem tfld_69_1 : tfld Tryd.prog 69 1 = some (1, 27) := by kernel_rfl
@[simp] theorem tsz_70 : tsz Tryd.prog 70 = some 2 := by kernel_rfl
@[simp] theorem tagg_70 : tagg Tryd.prog 70 = some true := by kernel_rfl
@[simp] theorem tzero_70 : tzero Tryd.prog 70 = some (Value.agg { toList := [Value.string { data := { toList := [] } }, Value.nilIface] }) := by kernel_rfl
@[simp] theorem tplaces_70 : tplaces Tryd.prog 70 = some [(0, 1), (1, 1)] := by kernel_rfl
@[simp] theorem telem_70 : telem Tryd.prog 70 = none := by kernel_rfl
@[simp] theorem tint_70 : tint Tryd.prog 70 = none := by kernel_rfl
@[simp] theorem tfld_70_0 : tfld Tryd.prog 70 0 = some (0, 9) := by kernel_rfl
@[simp] theorem tfld_70_1 : tfld Tryd.prog 70 1 = some (1, 27) := by kernel_rfl
@[simp] theorem tsz_71 : tsz Tryd.prog 71 = some 1 := by kernel_rfl
@[simp] theorem tagg_71 : tagg Tryd.prog 71 = some false := by kernel_rfl
@[simp] theorem tzero_71 : tzero Tryd.prog 71 = some (Value.pointer none) := by kernel_rfl
@[simp] theorem tplaces_71 : tplaces Tryd.prog 71 = none := by kernel_rfl
@[simp] theorem telem_71 : telem Tryd.prog 71 = none := by kernel_rfl
@[simp] theorem tint_71 : tint Tryd.prog 71 = none := by kernel_rfl
@[simp] theorem tsz_72 : tsz Tryd.prog 72 = some 1 := by kernel_rfl
@[simp] theorem tagg_72 : tagg Tryd.prog 72 = some false := by kernel_rfl
@[simp] theorem tzero_72 : tzero Tryd.prog 72 = some (Value.pointer none) := by kernel_rfl
@[simp] theorem tplaces_72 : tplaces Tryd.prog 72 = none := by kernel_rfl
@[simp] theorem telem_72 : telem Tryd.prog 72 = none := by kernel_rfl
@[simp] theorem tint_72 : tint Tryd.prog 72 = none := by kernel_rfl
@[simp] theorem tsz_73 : tsz Tryd.prog 73 = some 1 := by kernel_rfl
@[simp] theorem tagg_73 : tagg Tryd.prog 73 = some false := by kernel_rfl
@[simp] theorem tzero_73 : tzero Tryd.prog 73 = some (Value.pointer none) := by kernel_rfl
@[simp] theorem tplaces_73 : tplaces Tryd.prog 73 = none := by kernel_rfl
@[simp] theorem telem_73 : telem Tryd.prog 73 = none := by kernel_rfl
@[simp] theorem tint_73 : tint Tryd.prog 73 = none := by kernel_rfl
@[simp] theorem tsz_74 : tsz Tryd.prog 74 = some 1 := by kernel_rfl
@[simp] theorem tagg_74 : tagg Tryd.prog 74 = some false := by kernel_rfl
@[simp] theorem tzero_74 : tzero Tryd.prog 74 = some (Value.int IntKind.u64 (Int.ofNat 0)) := by kernel_rfl
@[simp] theorem tplaces_74 : tplaces Tryd.prog 74 = none := by kernel_rfl
@[simp] theorem telem_74 : telem Tryd.prog 74 = none := by kernel_rfl
@[simp] theorem tint_74 : tint Tryd.prog 74 = some IntKind.u64 := by kernel_rfl
@[simp] theorem tsz_75 : tsz Tryd.prog 75 = some 3 := by kernel_rfl
@[simp] theorem tagg_75 : tagg Tryd.prog 75 = some true := by kernel_rfl
@[simp] theorem tzero_75 : tzero Tryd.prog 75 = some (Value.agg { toList := [Value.pointer none, Value.pointer none, Value.int IntKind.u64 (Int.ofNat 0)] }) := by kernel_rfl
@[simp] theorem tplaces_75 : tplaces Tryd.prog 75 = some [(0, 1), (1, 1), (2, 1)] := by kernel_rfl
@[simp] theorem telem_75 : telem Tryd.prog 75 = none := by kernel_rfl
@[simp] theorem tint_75 : tint Tryd.prog 75 = none := by kernel_rfl
@[simp] theorem tfld_75_0 : tfld Tryd.prog 75 0 = some (0, 17) := by kernel_rfl
@[simp] theorem tfld_75_1 : tfld Tryd.prog 75 1 = some (1, 73) := by kernel_rfl
@[simp] theorem tfld_75_2 : tfld Tryd.prog 75 2 = some (2, 74) := by kernel_rfl
@[simp] theorem tsz_76 : tsz Tryd.prog 76 = some 3 := by kernel_rfl
@[simp] theorem tagg_76 : tagg Tryd.prog 76 = some true := by kernel_rfl
@[simp] theorem tzero_76 : tzero Tryd.prog 76 = some (Value.agg { toList := [Value.pointer none, Value.pointer none, Value.int IntKind.u64 (Int.ofNat 0)] }) := by kernel_rfl
@[simp] theorem tplaces_76 : tplaces Tryd.prog 76 = some [(0, 1), (1, 1), (2, 1)] := by kernel_rfl
@[simp] theorem telem_76 : telem Tryd.prog 76 = none := by kernel_rfl
@[simp] theorem tint_76 : tint Tryd.prog 76 = none := by kernel_rfl
@[simp] theorem tfld_76_0 : tfld Tryd.prog 76 0 = some (0, 17) := by kernel_rfl
@[simp] theorem tfld_76_1 : tfld Tryd.prog 76 1 = some (1, 73) := by kernel_rfl
@[simp] theorem tfld_76_2 : tfld Tryd.prog 76 2 = some (2, 74) := by kernel_rfl
@[simp] theorem tsz_77 : tsz Tryd.prog 77 = some 1 := by kernel_rfl
@[simp] theorem tagg_77 : tagg Tryd.prog 77 = some false := by kernel_rfl
@[simp] theorem tzero_77 : tzero Tryd.prog 77 = some Value.nilFunc := by kernel_rfl
@[simp] theorem tplaces_77 : tplaces Tryd.prog 77 = none := by kernel_rfl
@[simp] theorem telem_77 : telem Tryd.prog 77 = none := by kernel_rfl
@[simp] theorem tint_77 : tint Tryd.prog 77 = none := by kernel_rfl
@[simp] theorem tsz_78 : tsz Tryd.prog 78 = some 1 := by kernel_rfl
@[simp] theorem tagg_78 : tagg Tryd.prog 78 = some false := by kernel_rfl
@[simp] theorem tzero_78 : tzero Tryd.prog 78 = some Value.nilIface := by kernel_rfl
@[simp] theorem tplaces_78 : tplaces Tryd.prog 78 = none := by kernel_rfl
@[simp] theorem telem_78 : telem Tryd.prog 78 = none := by kernel_rfl
@[simp] theorem tint_78 : tint Tryd.prog 78 = none := by kernel_rfl
@[simp] theorem tsz_79 : tsz Tryd.prog 79 = some 1 := by kernel_rfl
@[simp] theorem tagg_79 : tagg Tryd.prog 79 = some false := by kernel_rfl
@[simp] theorem tzero_79 : tzero Tryd.prog 79 = some Value.nilIface := by kernel_rfl
@[simp] theorem tplaces_79 : tplaces Tryd.prog 79 = none := by kernel_rfl
@[simp] theorem telem_79 : telem Tryd.prog 79 = none := by kernel_rfl
@[simp] theorem tint_79 : tint Tryd.prog 79 = none := by kernel_rfl
@[simp] theorem tsz_80 : tsz Tryd.prog 80 = some 1 := by kernel_rfl
@[simp] theorem tagg_80 : tagg Tryd.prog 80 = some false := by kernel_rfl
@[simp] theorem tzero_80 : tzero Tryd.prog 80 = some Value.nilFunc := by kernel_rfl
@[simp] theorem tplaces_80 : tplaces Tryd.prog 80 = none := by kernel_rfl
@[simp] theorem telem_80 : telem Tryd.prog 80 = none := by kernel_rfl
@[simp] theorem tint_80 : tint Tryd.prog 80 = none := by kernel_rfl
@[simp] theorem tsz_81 : tsz Tryd.prog 81 = some 1 := by kernel_rfl
@[simp] theorem tagg_81 : tagg Tryd.prog 81 = some false := by kernel_rfl
@[simp] theorem tzero_81 : tzero Tryd.prog 81 = some (Value.int IntKind.u8 (Int.ofNat 0)) := by kernel_rfl
@[simp] theorem tplaces_81 : tplaces Tryd.prog 81 = none := by kernel_rfl
@[simp] theorem telem_81 : telem Tryd.prog 81 = none := by kernel_rfl
@[simp] theorem tint_81 : tint Tryd.prog 81 = some IntKind.u8 := by kernel_rfl
@[simp] theorem tsz_82 : tsz Tryd.prog 82 = some 1 := by kernel_rfl
@[simp] theorem tagg_82 : tagg Tryd.prog 82 = some false := by kernel_rfl
@[simp] theorem tzero_82 : tzero Tryd.prog 82 = some Value.nilFunc := by kernel_rfl
@[simp] theorem tplaces_82 : tplaces Tryd.prog 82 = none := by kernel_rfl
@[simp] theorem telem_82 : telem Tryd.prog 82 = none := by kernel_rfl
@[simp] theorem tint_82 : tint Tryd.prog 82 = none := by kernel_rfl
@[simp] theorem tsz_83 : tsz Tryd.prog 83 = some 1 := by kernel_rfl
@[simp] theorem tagg_83 : tagg Tryd.prog 83 = some false := by kernel_rfl
@[simp] theorem tzero_83 : tzero Tryd.prog 83 = some Value.nilFunc := by kernel_rfl
@[simp] theorem tplaces_83 : tplaces Tryd.prog 83 = none := by kernel_rfl
@[simp] theorem telem_83 : telem Tryd.prog 83 = none := by kernel_rfl
@[simp] theorem tint_83 : tint Tryd.prog 83 = none := by kernel_rfl
@[simp] theorem tsz_84 : tsz Tryd.prog 84 = some 1 := by kernel_rfl
@[simp] theorem tagg_84 : tagg Tryd.prog 84 = some false := by kernel_rfl
@[simp] theorem tzero_84 : tzero Tryd.prog 84 = some Value.nilFunc := by kernel_rfl
@[simp] theorem tplaces_84 : tplaces Tryd.prog 84 = none := by kernel_rfl
@[simp] theorem telem_84 : telem Tryd.prog 84 = none := by kernel_rfl
@[simp] theorem tint_84 : tint Tryd.prog 84 = none := by kernel_rfl
@[simp] theorem tsz_85 : tsz Tryd.prog 85 = some 1 := by kernel_rfl
@[simp] theorem tagg_85 : tagg Tryd.prog 85 = some false := by kernel_rfl
@[simp] theorem tzero_85 : tzero Tryd.prog 85 = some Value.nilFunc := by kernel_rfl
@[simp] theorem tplaces_85 : tplaces Tryd.prog 85 = none := by kernel_rfl
@[simp] theorem telem_85 : telem Tryd.prog 85 = none := by kernel_rfl
@[simp] theorem tint_85 : tint Tryd.prog 85 = none := by kernel_rfl
@[simp] theorem tsz_86 : tsz Tryd.prog 86 = some 1 := by kernel_rfl
@[simp] theorem tagg_86 : tagg Tryd.prog 86 = some false := by kernel_rfl
@[simp] theorem tzero_86 : tzero Tryd.prog 86 = some Value.nilFunc := by kernel_rfl
@[simp] theorem tplaces_86 : tplaces Tryd.prog 86 = none := by kernel_rfl
@[simp] theorem telem_86 : telem Tryd.prog 86 = none := by kernel_rfl
@[simp] theorem tint_86 : tint Tryd.prog 86 = none := by kernel_rfl
@[simp] theorem tsz_87 : tsz Tryd.prog 87 = some 1 := by kernel_rfl
@[simp] theorem tagg_87 : tagg Tryd.prog 87 = some false := by kernel_rfl
@[simp] theorem tzero_87 : tzero Tryd.prog 87 = some Value.nilFunc := by kernel_rfl
@[simp] theorem tplaces_87 : tplaces Tryd.prog 87 = none := by kernel_rfl
@[simp] theorem telem_87 : telem Tryd.prog 87 = none := by kernel_rfl
@[simp] theorem tint_87 : tint Tryd.prog 87 = none := by kernel_rfl
@[simp] theorem tsz_88 : tsz Tryd.prog 88 = some 1 := by kernel_rfl
@[simp] theorem tagg_88 : tagg Tryd.prog 88 = some true := by kernel_rfl
@[simp] theorem tzero_88 : tzero Tryd.prog 88 = some (Value.agg { toList := [Value.pointer none] }) := by kernel_rfl
@[simp] theorem tplaces_88 : tplaces Tryd.prog 88 = some [(0, 1)] := by kernel_rfl
@[simp] theorem telem_88 : telem Tryd.prog 88 = none := by kernel_rfl
@[simp] theorem tint_88 : tint Tryd.prog 88 = none := by kernel_rfl
@[simp] theorem tfld_88_0 : tfld Tryd.prog 88 0 = some (0, 17) := by kernel_rfl
@[simp] theorem tsz_89 : tsz Tryd.prog 89 = some 1 := by kernel_rfl
@[simp] theorem tagg_89 : tagg Tryd.prog 89 = some true := by kernel_rfl
@[simp] theorem tzero_89 : tzero Tryd.prog 89 = some (Value.agg { toList := [Value.pointer none] }) := by kernel_rfl
@[simp] theorem tplaces_89 : tplaces Tryd.prog 89 = some [(0, 1)] := by kernel_rfl
@[simp] theorem telem_89 : telem Tryd.prog 89 = none := by kernel_rfl
@[simp] theorem tint_89 : tint Tryd.prog 89 = none := by kernel_rfl
@[simp] theorem tfld_89_0 : tfld Tryd.prog 89 0 = some (0, 17) := by kernel_rfl
@[simp] theorem tsz_90 : tsz Tryd.prog 90 = some 1 := by kernel_rfl
@[simp] theorem tagg_90 : tagg Tryd.prog 90 = some false := by kernel_rfl
@[simp] theorem tzero_90 : tzero Tryd.prog 90 = some (Value.pointer none) := by kernel_rfl
@[simp] theorem tplaces_90 : tplaces Tryd.prog 90 = none := by kernel_rfl
@[simp] theorem telem_90 : telem Tryd.prog 90 = none := by kernel_rfl
@[simp] theorem tint_90 : tint Tryd.prog 90 = none := by kernel_rfl
@[simp] theorem tsz_91 : tsz Tryd.prog 91 = some 1 := by kernel_rfl
@[simp] theorem tagg_91 : tagg Tryd.prog 91 = some false := by kernel_rfl
@[simp] theorem tzero_91 : tzero Tryd.prog 91 = some Value.nilFunc := by kernel_rfl
@[simp] theorem tplaces_91 : tplaces Tryd.prog 91 = none := by kernel_rfl
@[simp] theorem telem_91 : telem Tryd.prog 91 = none := by kernel_rfl
@[simp] theorem tint_91 : tint Tryd.prog 91 = none := by kernel_rfl
@[simp] theorem tsz_92 : tsz Tryd.prog 92 = some 1 := by kernel_rfl
@[simp] theorem tagg_92 : tagg Tryd.prog 92 = some false := by kernel_rfl
@[simp] theorem tzero_92 : tzero Tryd.prog 92 = some Value.nilFunc := by kernel_rfl
@[simp] theorem tplaces_92 : tplaces Tryd.prog 92 = none := by kernel_rfl
@[simp] theorem telem_92 : telem Tryd.prog 92 = none := by kernel_rfl
@[simp] theorem tint_92 : tint Tryd.prog 92 = none := by kernel_rfl
@[simp] theorem tsz_93 : tsz Tryd.prog 93 = some 1 := by kernel_rfl
@[simp] theorem tagg_93 : tagg Tryd.prog 93 = some false := by kernel_rfl
@[simp] theorem tzero_93 : tzero Tryd.prog 93 = some Value.nilIface := by kernel_rfl
@[simp] theorem tplaces_93 : tplaces Tryd.prog 93 = none := by kernel_rfl
@[simp] theorem telem_93 : telem Tryd.prog 93 = none := by kernel_rfl
@[simp] theorem tint_93 : tint Tryd.prog 93 = none := by kernel_rfl
@[simp] theorem tsz_94 : tsz Tryd.prog 94 = some 1 := by kernel_rfl
@[simp] theorem tagg_94 : tagg Tryd.prog 94 = some false := by kernel_rfl
@[simp] theorem tzero_94 : tzero Tryd.prog 94 = some (Value.tuple { toList := [Value.nilIface, Value.bool false] }) := by kernel_rfl
@[simp] theorem tplaces_94 : tplaces Tryd.prog 94 = none := by kernel_rfl
@[simp] theorem telem_94 : telem Tryd.prog 94 = none := by kernel_rfl
@[simp] theorem tint_94 : tint Tryd.prog 94 = none := by kernel_rfl
@[simp] theorem tsz_95 : tsz Tryd.prog 95 = some 1 := by kernel_rfl
@[simp] theorem tagg_95 : tagg Tryd.prog 95 = some false := by kernel_rfl
@[simp] theorem tzero_95 : tzero Tryd.prog 95 = some Value.nilFunc := by kernel_rfl
@[simp] theorem tplaces_95 : tplaces Tryd.prog 95 = none := by kernel_rfl
@[simp] theorem telem_95 : telem Tryd.prog 95 = none := by kernel_rfl
@[simp] theorem tint_95 : tint Tryd.prog 95 = none := by kernel_rfl
@[simp] theorem tsz_96 : tsz Tryd.prog 96 = some 1 := by kernel_rfl
@[simp] theorem tagg_96 : tagg Tryd.prog 96 = some false := by kernel_rfl
@[simp] theorem tzero_96 : tzero Tryd.prog 96 = some Value.nilIface := by kernel_rfl
@[simp] theorem tplaces_96 : tplaces Tryd.prog 96 = none := by kernel_rfl
@[simp] theorem telem_96 : telem Tryd.prog 96 = none := by kernel_rfl
@[simp] theorem tint_96 : tint Tryd.prog 96 = none := by kernel_rfl
@[simp] theorem tsz_97 : tsz Tryd.prog 97 = some 1 := by kernel_rfl
@[simp] theorem tagg_97 : tagg Tryd.prog 97 = some false := by kernel_rfl
@[simp] theorem tzero_97 : tzero Tryd.prog 97 = some Value.nilIface := by kernel_rfl
@[simp] theorem tplaces_97 : tplaces Tryd.prog 97 = none := by kernel_rfl
@[simp] theorem telem_97 : telem Tryd.prog 97 = none := by kernel_rfl
@[simp] theorem tint_97 : tint Tryd.prog 97 = none := by kernel_rfl
@[simp] theorem tsz_98 : tsz Tryd.prog 98 = some 1 := by kernel_rfl
@[simp] theorem tagg_98 : tagg Tryd.prog 98 = some false := by kernel_rfl
@[simp] theorem tzero_98 : tzero Tryd.prog 98 = some (Value.slice none 0 0) := by kernel_rfl
@[simp] theorem tplaces_98 : tplaces Tryd.prog 98 = none := by kernel_rfl
@[simp] theorem telem_98 : telem Tryd.prog 98 = some (none, 27, 1) := by kernel_rfl
@[simp] theorem tint_98 : tint Tryd.prog 98 = none := by kernel_rfl
@[simp] theorem tsz_99 : tsz Tryd.prog 99 = some 1 := by kernel_rfl
@[simp] theorem tagg_99 : tagg Tryd.prog 99 = some false := by kernel_rfl
@[simp] theorem tzero_99 : tzero Tryd.prog 99 = some Value.nilFunc := by kernel_rfl
@[simp] theorem tplaces_99 : tplaces Tryd.prog 99 = none := by kernel_rfl
@[simp] theorem telem_99 : telem Tryd.prog 99 = none := by kernel_rfl
@[simp] theorem tint_99 : tint Tryd.prog 99 = none := by kernel_rfl
@[simp] theorem tsz_100 : tsz Tryd.prog 100 = some 1 := by kernel_rfl
@[simp] theorem tagg_100 : tagg Tryd.prog 100 = some false := by kernel_rfl
@[simp] theorem tzero_100 : tzero Tryd.prog 100 = some Value.nilIface := by kernel_rfl
@[simp] theorem tplaces_100 : tplaces Tryd.prog 100 = none := by kernel_rfl
@[simp] theorem telem_100 : telem Tryd.prog 100 = none := by kernel_rfl
@[simp] theorem tint_100 : tint Tryd.prog 100 = none := by kernel_rfl
@[simp] theorem tsz_101 : tsz Tryd.prog 101 = some 1 := by kernel_rfl
@[simp] theorem tagg_101 : tagg Tryd.prog 101 = some false := by kernel_rfl
@[simp] theorem tzero_101 : tzero Tryd.prog 101 = some (Value.tuple { toList := [Value.nilIface, Value.bool false] }) := by kernel_rfl
@[simp] theorem tplaces_101 : tplaces Tryd.prog 101 = none := by kernel_rfl
@[simp] theorem telem_101 : telem Tryd.prog 101 = none := by kernel_rfl
@[simp] theorem tint_101 : tint Tryd.prog 101 = none := by kernel_rfl
@[simp] theorem tsz_102 : tsz Tryd.prog 102 = some 1 := by kernel_rfl
@[simp] theorem tagg_102 : tagg Tryd.prog 102 = some false := by kernel_rfl
@[simp] theorem tzero_102 : tzero Tryd.prog 102 = some Value.nilFunc := by kernel_rfl
@[simp] theorem tplaces_102 : tplaces Tryd.prog 102 = none := by kernel_rfl
@[simp] theorem telem_102 : telem Tryd.prog 102 = none := by kernel_rfl
@[simp] theorem tint_102 : tint Tryd.prog 102 = none := by kernel_rfl
@[simp] theorem tsz_103 : tsz Tryd.prog 103 = some 24 := by kernel_rfl
@[simp] theorem tagg_103 : tagg Tryd.prog 103 = some true := by kernel_rfl
@[simp] theorem tzero_103 : tzero Tryd.prog 103 = some
  (Value.agg
    {
      toList :=
        [Value.int IntKind.u8 (Int.ofNat 0), Value.int IntKind.u8 (Int.ofNat 0), Value.int IntKind.u8 (Int.ofNat 0), Value.int IntKind.u8 (Int.ofNat 0), Value.int IntKind.u8 (Int.ofNat 0),
          Value.int IntKind.u8 (Int.ofNat 0), Value.int IntKind.u8 (Int.ofNat 0), Value.int IntKind.u8 (Int.ofNat 0), Value.int IntKind.u8 (Int.ofNat 0), Value.int IntKind.u8 (Int.ofNat 0),
          Value.int IntKind.u8 (Int.ofNat 0), Value.int IntKind.u8 (Int.ofNat 0), Value.int IntKind.u8 (Int.ofNat 0), Value.int IntKind.u8 (Int.ofNat 0), Value.int IntKind.u8 (Int.ofNat 0),
          Value.int IntKind.u8 (Int.ofNat 0), Value.int IntKind.u8 (Int.ofNat 0), Value.int IntKind.u8 (Int.ofNat 0), Value.int IntKind.u8 (Int.ofNat 0), Value.int IntKind.u8 (Int.ofNat 0),
          Value.int IntKind.u8 (Int.ofNat 0), Value.int IntKind.u8 (Int.ofNat 0), Value.int IntKind.u8 (Int.ofNat 0), Value.int IntKind.u8 (Int.ofNat 0)] }) := by kernel_rfl
@[simp] theorem tplaces_103 : tplaces Tryd.prog 103 = none := by kernel_rfl
@[simp] theorem telem_103 : telem Tryd.prog 103 = some (some 24, 5, 1) := by kernel_rfl
@[simp] theorem tint_103 : tint Tryd.prog 103 = none := by kernel_rfl
@[simp] theorem tsz_104 : tsz Tryd.prog 104 = some 1 := by kernel_rfl
@[simp] theorem tagg_104 : tagg Tryd.prog 104 = some false := by kernel_rfl
@[simp] theorem tzero_104 : tzero Tryd.prog 104 = some (Value.int IntKind.u64 (Int.ofNat 0)) := by kernel_rfl
@[simp] theorem tplaces_104 : tplaces Tryd.prog 104 = none := by kernel_rfl
@[simp] theorem telem_104 : telem Tryd.prog 104 = none := by kernel_rfl
@[simp] theorem tint_104 : tint Tryd.prog 104 = some IntKind.u64 := by kernel_rfl
@[simp] theorem tsz_105 : tsz Tryd.prog 105 = some 1 := by kernel_rfl
@[simp] theorem tagg_105 : tagg Tryd.prog 105 = some false := by kernel_rfl
@[simp] theorem tzero_105 : tzero Tryd.prog 105 = some Value.nilFunc := by kernel_rfl
@[simp] theorem tplaces_105 : tplaces Tryd.prog 105 = none := by kernel_rfl
@[simp] theorem telem_105 : telem Tryd.prog 105 = none := by kernel_rfl
@[simp] theorem tint_105 : tint Tryd.prog 105 = none := by kernel_rfl
@[simp] theorem tsz_106 : tsz Tryd.prog 106 = some 1 := by kernel_rfl
@[simp] theorem tagg_106 : tagg Tryd.prog 106 = some false := by kernel_rfl
@[simp] theorem tzero_106 : tzero Tryd.prog 106 = some Value.nilFunc := by kernel_rfl
@[simp] theorem tplaces_106 : tplaces Tryd.prog 106 = none := by kernel_rfl
@[simp] theorem telem_106 : telem Tryd.prog 106 = none := by kernel_rfl
@[simp] theorem tint_106 : tint Tryd.prog 106 = none := by kernel_rfl
@[simp] theorem tsz_107 : tsz Tryd.prog 107 = some 1 := by kernel_rfl
@[simp] theorem tagg_107 : tagg Tryd.prog 107 = some false := by kernel_rfl
@[simp] theorem tzero_107 : tzero Tryd.prog 107 = some (Value.slice none 0 0) := by kernel_rfl
@[simp] theorem tplaces_107 : tplaces Tryd.prog 107 = none := by kernel_rfl
@[simp] theorem telem_107 : telem Tryd.prog 107 = some (none, 5, 1) := by kernel_rfl
@[simp] theorem tint_107 : tint Tryd.prog 107 = none := by kernel_rfl
@[simp] theorem tsz_108 : tsz Tryd.prog 108 = some 1 := by kernel_rfl
@[simp] theorem tagg_108 : tagg Tryd.prog 108 = some false := by kernel_rfl
@[simp] theorem tzero_108 : tzero Tryd.prog 108 = some (Value.tuple { toList := [Value.slice none 0 0, Value.string { data := { toList := [] } }] }) := by kernel_rfl
@[simp] theorem tplaces_108 : tplaces Tryd.prog 108 = none := by kernel_rfl
@[simp] theorem telem_108 : telem Tryd.prog 108 = none := by kernel_rfl
@[simp] theorem tint_108 : tint Tryd.prog 108 = none := by kernel_rfl
@[simp] theorem tsz_109 : tsz Tryd.prog 109 = some 1 := by kernel_rfl
@[simp] theorem tagg_109 : tagg Tryd.prog 109 = some false := by kernel_rfl
@[simp] theorem tzero_109 : tzero Tryd.prog 109 = some Value.nilFunc := by kernel_rfl
@[simp] theorem tplaces_109 : tplaces Tryd.prog 109 = none := by kernel_rfl
@[simp] theorem telem_109 : telem Tryd.prog 109 = none := by kernel_rfl
@[simp] theorem tint_109 : tint Tryd.prog 109 = none := by kernel_rfl
@[simp] theorem tsz_110 : tsz Tryd.prog 110 = some 1 := by kernel_rfl
@[simp] theorem tagg_110 : tagg Tryd.prog 110 = some false := by kernel_rfl
@[simp] theorem tzero_110 : tzero Tryd.prog 110 = some Value.nilFunc := by kernel_rfl
@[simp] theorem tplaces_110 : tplaces Tryd.prog 110 = none := by kernel_rfl
@[simp] theorem telem_110 : telem Tryd.prog 110 = none := by kernel_rfl
@[simp] theorem tint_110 : tint Tryd.prog 110 = none := by kernel_rfl
@[simp] theorem tsz_111 : tsz Tryd.prog 111 = some 1 := by kernel_rfl
@[simp] theorem tagg_111 : tagg Tryd.prog 111 = some false := by kernel_rfl
@[simp] theorem tzero_111 : tzero Tryd.prog 111 = some Value.nilFunc := by kernel_rfl
@[simp] theorem tplaces_111 : tplaces Tryd.prog 111 = none := by kernel_rfl
@[simp] theorem telem_111 : telem Tryd.prog 111 = none := by kernel_rfl
@[simp] theorem tint_111 : tint Tryd.prog 111 = none := by kernel_rfl
@[simp] theorem tsz_112 : tsz Tryd.prog 112 = some 20 := by kernel_rfl
@[simp] theorem tagg_112 : tagg Tryd.prog 112 = some true := by kernel_rfl
@[simp] theorem tzero_112 : tzero Tryd.prog 112 = some
  (Value.agg
    {
      toList :=
        [Value.int IntKind.u64 (Int.ofNat 0), Value.int IntKind.u64 (Int.ofNat 0), Value.int IntKind.u64 (Int.ofNat 0), Value.int IntKind.u64 (Int.ofNat 0), Value.int IntKind.u64 (Int.ofNat 0),
          Value.int IntKind.u64 (Int.ofNat 0), Value.int IntKind.u64 (Int.ofNat 0), Value.int IntKind.u64 (Int.ofNat 0), Value.int IntKind.u64 (Int.ofNat 0), Value.int IntKind.u64 (Int.ofNat 0),
          Value.int IntKind.u64 (Int.ofNat 0), Value.int IntKind.u64 (Int.ofNat 0), Value.int IntKind.u64 (Int.ofNat 0), Value.int IntKind.u64 (Int.ofNat 0), Value.int IntKind.u64 (Int.ofNat 0),
          Value.int IntKind.u64 (Int.ofNat 0), Value.int IntKind.u64 (Int.ofNat 0), Value.int IntKind.u64 (Int.ofNat 0), Value.int IntKind.u64 (Int.ofNat 0), Value.int IntKind.u64 (Int.ofNat 0)] }) := by kernel_rfl
@[simp] theorem tplaces_112 : tplaces Tryd.prog 112 = none := by kernel_rfl
@[simp] theorem telem_112 : telem Tryd.prog 112 = some (some 20, 104, 1) := by kernel_rfl
@[simp] theorem tint_112 : tint Tryd.prog 112 = none := by kernel_rfl
@[simp] theorem tsz_113 : tsz Tryd.prog 113 = some 1 := by kernel_rfl
@[simp] theorem tagg_113 : tagg Tryd.prog 113 = some false := by kernel_rfl
@[simp] theorem tzero_113 : tzero Tryd.prog 113 = some (Value.int IntKind.u32 (Int.ofNat 0)) := by kernel_rfl
@[simp] theorem tplaces_113 : tplaces Tryd.prog 113 = none := by kernel_rfl
@[simp] theorem telem_113 : telem Tryd.prog 113 = none := by kernel_rfl
@[simp] theorem tint_113 : tint Tryd.prog 113 = some IntKind.u32 := by kernel_rfl
@[simp] theorem tsz_114 : tsz Tryd.prog 114 = some 65 := by kernel_rfl
@[simp] theorem tagg_114 : tagg Tryd.prog 114 = some true := by kernel_rfl
@[simp] theorem tzero_114 : tzero Tryd.prog 114 = some
  (Value.agg
    {
      toList :=
        [Value.int IntKind.u8 (Int.ofNat 0), Value.int IntKind.u8 (Int.ofNat 0), Value.int IntKind.u8 (Int.ofNat 0), Value.int IntKind.u8 (Int.ofNat 0), Value.int IntKind.u8 (Int.ofNat 0),
          Value.int IntKind.u8 (Int.ofNat 0), Value.int IntKind.u8 (Int.ofNat 0), Value.int IntKind.u8 (Int.ofNat 0), Value.int IntKind.u8 (Int.ofNat 0), Value.int IntKind.u8 (Int.ofNat 0),
          Value.int IntKind.u8 (Int.ofNat 0), Value.int IntKind.u8 (Int.ofNat 0), Value.int IntKind.u8 (Int.ofNat 0), Value.int IntKind.u8 (Int.ofNat 0), Value.int IntKind.u8 (Int.ofNat 0),
          Value.int IntKind.u8 (Int.ofNat 0), Value.int IntKind.u8 (Int.ofNat 0), Value.int IntKind.u8 (Int.ofNat 0), Value.int IntKind.u8 (Int.ofNat 0), Value.int IntKind.u8 (Int.ofNat 0),
          Value.int IntKind.u8 (Int.ofNat 0), Value.int IntKind.u8 (Int.ofNat 0), Value.int IntKind.u8 (Int.ofNat 0), Value.int IntKind.u8 (Int.ofNat 0), Value.int IntKind.u8 (Int.ofNat 0),
          Value.int IntKind.u8 (Int.ofNat 0), Value.int IntKind.u8 (Int.ofNat 0), Value.int IntKind.u8 (Int.ofNat 0), Value.int IntKind.u8 (Int.ofNat 0), Value.int IntKind.u8 (Int.ofNat 0),
          Value.int IntKind.u8 (Int.ofNat 0), Value.int IntKind.u8 (Int.ofNat 0), Value.int IntKind.u8 (Int.ofNat 0), Value.int IntKind.u8 (Int.ofNat 0), Value.int IntKind.u8 (Int.ofNat 0),
          Value.int IntKind.u8 (Int.ofNat 0), Value.int IntKind.u8 (Int.ofNat 0), Value.int IntKind.u8 (Int.ofNat 0), Value.int IntKind.u8 (Int.ofNat 0), Value.int IntKind.u8 (Int.ofNat 0),
          Value.int IntKind.u8 (Int.ofNat 0), Value.int IntKind.u8 (Int.ofNat 0), Value.int IntKind.u8 (Int.ofNat 0), Value.int IntKind.u8 (Int.ofNat 0), Value.int IntKind.u8 (Int.ofNat 0),
          Value.int IntKind.u8 (Int.ofNat 0), Value.int IntKind.u8 (Int.ofNat 0), Value.int IntKind.u8 (Int.ofNat 0), Value.int IntKind.u8 (Int.ofNat 0), Value.int IntKind.u8 (Int.ofNat 0),
          Value.int IntKind.u8 (Int.ofNat 0), Value.int IntKind.u8 (Int.ofNat 0), Value.int IntKind.u8 (Int.ofNat 0), Value.int IntKind.u8 (Int.ofNat 0), Value.int IntKind.u8 (Int.ofNat 0),
          Value.int IntKind.u8 (Int.ofNat 0), Value.int IntKind.u8 (Int.ofNat 0), Value.int IntKind.u8 (Int.ofNat 0), Value.int IntKind.u8 (Int.ofNat 0), Value.int IntKind.u8 (Int.ofNat 0),
          Value.int IntKind.u8 (Int.ofNat 0), Value.int IntKind.u8 (Int.ofNat 0), Value.int IntKind.u8 (Int.ofNat 0), Value.int IntKind.u8 (Int.ofNat 0), Value.int IntKind.u8 (Int.ofNat 0)] }) := by kernel_rfl
@[simp] theorem tplaces_114 : tplaces Tryd.prog 114 = none := by kernel_rfl
@[simp] theorem telem_114 : telem Tryd.prog 114 = some (some 65, 5, 1) := by kernel_rfl
@[simp] theorem tint_114 : tint Tryd.prog 114 = none := by kernel_rfl
@[simp] theorem tsz_115 : tsz Tryd.prog 115 = some 1 := by kernel_rfl
@[simp] theorem tagg_115 : tagg Tryd.prog 115 = some false := by kernel_rfl
@[simp] theorem tzero_115 : tzero Tryd.prog 115 = some Value.nilFunc := by kernel_rfl
@[simp] theorem tplaces_115 : tplaces Tryd.prog 115 = none := by kernel_rfl
@[simp] theorem telem_115 : telem Tryd.prog 115 = none := by kernel_rfl
@[simp] theorem tint_115 : tint Tryd.prog 115 = none := by kernel_rfl
@[simp] theorem tsz_116 : tsz Tryd.prog 116 = some 1 := by kernel_rfl
@[simp] theorem tagg_116 : tagg Tryd.prog 116 = some false := by kernel_rfl
@[simp] theorem tzero_116 : tzero Tryd.prog 116 = some (Value.int IntKind.u64 (Int.ofNat 0)) := by kernel_rfl
@[simp] theorem tplaces_116 : tplaces Tryd.prog 116 = none := by kernel_rfl
@[simp] theorem telem_116 : telem Tryd.prog 116 = none := by kernel_rfl
@[simp] theorem tint_116 : tint Tryd.prog 116 = some IntKind.u64 := by kernel_rfl
@[simp] theorem tsz_117 : tsz Tryd.prog 117 = some 1 := by kernel_rfl
@[simp] theorem tagg_117 : tagg Tryd.prog 117 = some false := by kernel_rfl
@[simp] theorem tzero_117 : tzero Tryd.prog 117 = some Value.nilFunc := by kernel_rfl
@[simp] theorem tplaces_117 : tplaces Tryd.prog 117 = none := by kernel_rfl
@[simp] theorem telem_117 : telem Tryd.prog 117 = none := by kernel_rfl
@[simp] theorem tint_117 : tint Tryd.prog 117 = none := by kernel_rfl
@[simp] theorem tsz_118 : tsz Tryd.prog 118 = some 1 := by kernel_rfl
@[simp] theorem tagg_118 : tagg Tryd.prog 118 = some false := by kernel_rfl
@[simp] theorem tzero_118 : tzero Tryd.prog 118 = some Value.nilFunc := by kernel_rfl
@[simp] theorem tplaces_118 : tplaces Tryd.prog 118 = none := by kernel_rfl
@[simp] theorem telem_118 : telem Tryd.prog 118 = none := by kernel_rfl
@[simp] theorem tint_118 : tint Tryd.prog 118 = none := by kernel_rfl
@[simp] theorem tsz_119 : tsz Tryd.prog 119 = some 32 := by kernel_rfl
@[simp] theorem tagg_119 : tagg Tryd.prog 119 = some true := by kernel_rfl
@[simp] theorem tzero_119 : tzero Tryd.prog 119 = some
  (Value.agg
    {
      toList :=
        [Value.int IntKind.u8 (Int.ofNat 0), Value.int IntKind.u8 (Int.ofNat 0), Value.int IntKind.u8 (Int.ofNat 0), Value.int IntKind.u8 (Int.ofNat 0), Value.int IntKind.u8 (Int.ofNat 0),
          Value.int IntKind.u8 (Int.ofNat 0), Value.int IntKind.u8 (Int.ofNat 0), Value.int IntKind.u8 (Int.ofNat 0), Value.int IntKind.u8 (Int.ofNat 0), Value.int IntKind.u8 (Int.ofNat 0),
          Value.int IntKind.u8 (Int.ofNat 0), Value.int IntKind.u8 (Int.ofNat 0), Value.int IntKind.u8 (Int.ofNat 0), Value.int IntKind.u8 (Int.ofNat 0), Value.int IntKind.u8 (Int.ofNat 0),
          Value.int IntKind.u8 (Int.ofNat 0), Value.int IntKind.u8 (Int.ofNat 0), Value.int IntKind.u8 (Int.ofNat 0), Value.int IntKind.u8 (Int.ofNat 0), Value.int IntKind.u8 (Int.ofNat 0),
          Value.int IntKind.u8 (Int.ofNat 0), Value.int IntKind.u8 (Int.ofNat 0), Value.int IntKind.u8 (Int.ofNat 0), Value.int IntKind.u8 (Int.ofNat 0), Value.int IntKind.u8 (Int.ofNat 0),
          Value.int IntKind.u8 (Int.ofNat 0), Value.int IntKind.u8 (Int.ofNat 0), Value.int IntKind.u8 (Int.ofNat 0), Value.int IntKind.u8 (Int.ofNat 0), Value.int IntKind.u8 (Int.ofNat 0),
          Value.int IntKind.u8 (Int.ofNat 0), Value.int IntKind.u8 (Int.ofNat 0)] }) := by kernel_rfl
@[simp] theorem tplaces_119 : tplaces Tryd.prog 119 = none := by kernel_rfl
@[simp] theorem telem_119 : telem Tryd.prog 119 = some (some 32, 5, 1) := by kernel_rfl
@[simp] theorem tint_119 : tint Tryd.prog 119 = none := by kernel_rfl
@[simp] theorem tsz_120 : tsz Tryd.prog 120 = some 64 := by kernel_rfl
@[simp] theorem tagg_120 : tagg Tryd.prog 120 = some true := by kernel_rfl
@[simp] theorem tzero_120 : tzero Tryd.prog 120 = some
  (Value.agg
    {
      toList :=
        [Value.int IntKind.u8 (Int.ofNat 0), Value.int IntKind.u8 (Int.ofNat 0), Value.int IntKind.u8 (Int.ofNat 0), Value.int IntKind.u8 (Int.ofNat 0), Value.int IntKind.u8 (Int.ofNat 0),
          Value.int IntKind.u8 (Int.ofNat 0), Value.int IntKind.u8 (Int.ofNat 0), Value.int IntKind.u8 (Int.ofNat 0), Value.int IntKind.u8 (Int.ofNat 0), Value.int IntKind.u8 (Int.ofNat 0),
          Value.int IntKind.u8 (Int.ofNat 0), Value.int IntKind.u8 (Int.ofNat 0), Value.int IntKind.u8 (Int.ofNat 0), Value.int IntKind.u8 (Int.ofNat 0), Value.int IntKind.u8 (Int.ofNat 0),
          Value.int IntKind.u8 (Int.ofNat 0), Value.int IntKind.u8 (Int.ofNat 0), Value.int IntKind.u8 (Int.ofNat 0), Value.int IntKind.u8 (Int.ofNat 0), Value.int IntKind.u8 (Int.ofNat 0),
          Value.int IntKind.u8 (Int.ofNat 0), Value.int IntKind.u8 (Int.ofNat 0), Value.int IntKind.u8 (Int.ofNat 0), Value.int IntKind.u8 (Int.ofNat 0), Value.int IntKind.u8 (Int.ofNat 0),
          Value.int IntKind.u8 (Int.ofNat 0), Value.int IntKind.u8 (Int.ofNat 0), Value.int IntKind.u8 (Int.ofNat 0), Value.int IntKind.u8 (Int.ofNat 0), Value.int IntKind.u8 (Int.ofNat 0),
          Value.int IntKind.u8 (Int.ofNat 0), Value.int IntKind.u8 (Int.ofNat 0), Value.int IntKind.u8 (Int.ofNat 0), Value.int IntKind.u8 (Int.ofNat 0), Value.int IntKind.u8 (Int.ofNat 0),
          Value.int IntKind.u8 (Int.ofNat 0), Value.int IntKind.u8 (Int.ofNat 0), Value.int IntKind.u8 (Int.ofNat 0), Value.int IntKind.u8 (Int.ofNat 0), Value.int IntKind.u8 (Int.ofNat 0),
          Value.int IntKind.u8 (Int.ofNat 0), Value.int IntKind.u8 (Int.ofNat 0), Value.int IntKind.u8 (Int.ofNat 0), Value.int IntKind.u8 (Int.ofNat 0), Value.int IntKind.u8 (Int.ofNat 0),
          Value.int IntKind.u8 (Int.ofNat 0), Value.int IntKind.u8 (Int.ofNat 0), Value.int IntKind.u8 (Int.ofNat 0), Value.int IntKind.u8 (Int.ofNat 0), Value.int IntKind.u8 (Int.ofNat 0),
          Value.int IntKind.u8 (Int.ofNat 0), Value.int IntKind.u8 (Int.ofNat 0), Value.int IntKind.u8 (Int.ofNat 0), Value.int IntKind.u8 (Int.ofNat 0), Value.int IntKind.u8 (Int.ofNat 0),
          Value.int IntKind.u8 (Int.ofNat 0), Value.int IntKind.u8 (Int.ofNat 0), Value.int IntKind.u8 (Int.ofNat 0), Value.int IntKind.u8 (Int.ofNat 0), Value.int IntKind.u8 (Int.ofNat 0),
          Value.int IntKind.u8 (Int.ofNat 0), Value.int IntKind.u8 (Int.ofNat 0), Value.int IntKind.u8 (Int.ofNat 0), Value.int IntKind.u8 (Int.ofNat 0)] }) := by kernel_rfl
@[simp] theorem tplaces_120 : tplaces Tryd.prog 120 = none := by kernel_rfl
@[simp] theorem telem_120 : telem Tryd.prog 120 = some (some 64, 5, 1) := by kernel_rfl
@[simp] theorem tint_120 : tint Tryd.prog 120 = none := by kernel_rfl
@[simp] theorem tsz_121 : tsz Tryd.prog 121 = some 4 := by kernel_rfl
@[simp] theorem tagg_121 : tagg Tryd.prog 121 = some true := by kernel_rfl
@[simp] theorem tzero_121 : tzero Tryd.prog 121 = some (Value.agg { toList := [Value.pointer none, Value.pointer none, Value.pointer none, Value.string { data := { toList := [] } }] }) := by kernel_rfl
@[simp] theorem tplaces_121 : tplaces Tryd.prog 121 = some [(0, 1), (1, 1), (2, 1), (3, 1)] := by kernel_rfl
@[simp] theorem telem_121 : telem Tryd.prog 121 = none := by kernel_rfl
@[simp] theorem tint_121 : tint Tryd.prog 121 = none := by kernel_rfl
@[simp] theorem tfld_121_0 : tfld Tryd.prog 121 0 = some (0, 17) := by kernel_rfl
@[simp] theorem tfld_121_1 : tfld Tryd.prog 121 1 = some (1, 17) := by kernel_rfl
@[simp] theorem tfld_121_2 : tfld Tryd.prog 121 2 = some (2, 17) := by kernel_rfl
@[simp] theorem tfld_121_3 : tfld Tryd.prog 121 3 = some (3, 9) := by kernel_rfl
@[simp] theorem tsz_122 : tsz Tryd.prog 122 = some 4 := by kernel_rfl
@[simp] theorem tagg_122 : tagg Tryd.prog 122 = some true := by kernel_rfl
@[simp] theorem tzero_122 : tzero Tryd.prog 122 = some (Value.agg { toList := [Value.pointer none, Value.pointer none, Value.pointer none, Value.string { data := { toList := [] } }] }) := by kernel_rfl
@[simp] theorem tplaces_122 : tplaces Tryd.prog 122 = some [(0, 1), (1, 1), (2, 1), (3, 1)] := by kernel_rfl
@[simp] theorem telem_122 : telem Tryd.prog 122 = none := by kernel_rfl
@[simp] theorem tint_122 : tint Tryd.prog 122 = none := by kernel_rfl
@[simp] theorem tfld_122_0 : tfld Tryd.prog 122 0 = some (0, 17) := by kernel_rfl
@[simp] theorem tfld_122_1 : tfld Tryd.prog 122 1 = some (1, 17) := by kernel_rfl
@[simp] theorem tfld_122_2 : tfld Tryd.prog 122 2 = some (2, 17) := by kernel_rfl
@[simp] theorem tfld_122_3 : tfld Tryd.prog 122 3 = some (3, 9) := by kernel_rfl
@[simp] theorem tsz_123 : tsz Tryd.prog 123 = some 0 := by kernel_rfl
@[simp] theorem tagg_123 : tagg Tryd.prog 123 = some true := by kernel_rfl
@[simp] theorem tzero_123 : tzero Tryd.prog 123 = some (Value.agg { toList := [] }) := by kernel_rfl
@[simp] theorem tplaces_123 : tplaces Tryd.prog 123 = none := by kernel_rfl
@[simp] theorem telem_123 : telem Tryd.prog 123 = some (some 0, 16, 1) := by kernel_rfl
@[simp] theorem tint_123 : tint Tryd.prog 123 = none := by kernel_rfl
@[simp] theorem tsz_124 : tsz Tryd.prog 124 = some 0 := by kernel_rfl
@[simp] theorem tagg_124 : tagg Tryd.prog 124 = some true := by kernel_rfl
@[simp] theorem tzero_124 : tzero Tryd.prog 124 = some (Value.agg { toList := [] }) := by kernel_rfl
@[simp] theorem tplaces_124 : tplaces Tryd.prog 124 = some [(0, 0)] := by kernel_rfl
@[simp] theorem telem_124 : telem Tryd.prog 124 = none := by kernel_rfl
@[simp] theorem tint_124 : tint Tryd.prog 124 = none := by kernel_rfl
@[simp] theorem tfld_124_0 : tfld Tryd.prog 124 0 = some (0, 123) := by kernel_rfl
@[simp] theorem tsz_125 : tsz Tryd.prog 125 = some 0 := by kernel_rfl
@[simp] theorem tagg_125 : tagg Tryd.prog 125 = some true := by kernel_rfl
@[simp] theorem tzero_125 : tzero Tryd.prog 125 = some (Value.agg { toList := [] }) := by kernel_rfl
@[simp] theorem tplaces_125 : tplaces Tryd.prog 125 = some [(0, 0)] := by kernel_rfl
@[simp] theorem telem_125 : telem Tryd.prog 125 = none := by kernel_rfl
@[simp] theorem tint_125 : tint Tryd.prog 125 = none := by kernel_rfl
@[simp] theorem tfld_125_0 : tfld Tryd.prog 125 0 = some (0, 123) := by kernel_rfl
@[simp] theorem tsz_126 : tsz Tryd.prog 126 = some 1 := by kernel_rfl
@[simp] theorem tagg_126 : tagg Tryd.prog 126 = some false := by kernel_rfl
@[simp] theorem tzero_126 : tzero Tryd.prog 126 = some Value.nilFunc := by kernel_rfl
@[simp] theorem tplaces_126 : tplaces Tryd.prog 126 = none := by kernel_rfl
@[simp] theorem telem_126 : telem Tryd.prog 126 = none := by kernel_rfl
@[simp] theorem tint_126 : tint Tryd.prog 126 = none := by kernel_rfl
@[simp] theorem tsz_127 : tsz Tryd.prog 127 = some 1 := by kernel_rfl
@[simp] theorem tagg_127 : tagg Tryd.prog 127 = some false := by kernel_rfl
@[simp] theorem tzero_127 : tzero Tryd.prog 127 = some Value.nilFunc := by kernel_rfl
@[simp] theorem tplaces_127 : tplaces Tryd.prog 127 = none := by kernel_rfl
@[simp] theorem telem_127 : telem Tryd.prog 127 = none := by kernel_rfl
@[simp] theorem tint_127 : tint Tryd.prog 127 = none := by kernel_rfl
@[simp] theorem tsz_128 : tsz Tryd.prog 128 = some 1 := by kernel_rfl
@[simp] theorem tagg_128 : tagg Tryd.prog 128 = some false := by kernel_rfl
@[simp] theorem tzero_128 : tzero Tryd.prog 128 = some (Value.int IntKind.u8 (Int.ofNat 0)) := by kernel_rfl
@[simp] theorem tplaces_128 : tplaces Tryd.prog 128 = none := by kernel_rfl
@[simp] theorem telem_128 : telem Tryd.prog 128 = none := by kernel_rfl
@[simp] theorem tint_128 : tint Tryd.prog 128 = some IntKind.u8 := by kernel_rfl
@[simp] theorem tsz_129 : tsz Tryd.prog 129 = some 1 := by kernel_rfl
@[simp] theorem tagg_129 : tagg Tryd.prog 129 = some false := by kernel_rfl
@[simp] theorem tzero_129 : tzero Tryd.prog 129 = some Value.nilFunc := by kernel_rfl
@[simp] theorem tplaces_129 : tplaces Tryd.prog 129 = none := by kernel_rfl
@[simp] theorem telem_129 : telem Tryd.prog 129 = none := by kernel_rfl
@[simp] theorem tint_129 : tint Tryd.prog 129 = none := by kernel_rfl
@[simp] theorem tsz_130 : tsz Tryd.prog 130 = some 1 := by kernel_rfl
@[simp] theorem tagg_130 : tagg Tryd.prog 130 = some false := by kernel_rfl
@[simp] theorem tzero_130 : tzero Tryd.prog 130 = some (Value.pointer none) := by kernel_rfl
@[simp] theorem tplaces_130 : tplaces Tryd.prog 130 = none := by kernel_rfl
@[simp] theorem telem_130 : telem Tryd.prog 130 = none := by kernel_rfl
@[simp] theorem tint_130 : tint Tryd.prog 130 = none := by kernel_rfl
@[simp] theorem tsz_131 : tsz Tryd.prog 131 = some 1 := by kernel_rfl
@[simp] theorem tagg_131 : tagg Tryd.prog 131 = some false := by kernel_rfl
@[simp] theorem tzero_131 : tzero Tryd.prog 131 = some (Value.int IntKind.i32 (Int.ofNat 0)) := by kernel_rfl
@[simp] theorem tplaces_131 : tplaces Tryd.prog 131 = none := by kernel_rfl
@[simp] theorem telem_131 : telem Tryd.prog 131 = none := by kernel_rfl
@[simp] theorem tint_131 : tint Tryd.prog 131 = some IntKind.i32 := by kernel_rfl
@[simp] theorem tsz_132 : tsz Tryd.prog 132 = some 1 := by kernel_rfl
@[simp] theorem tagg_132 : tagg Tryd.prog 132 = some false := by kernel_rfl
@[simp] theorem tzero_132 : tzero Tryd.prog 132 = some (Value.int IntKind.i32 (Int.ofNat 0)) := by kernel_rfl
@[simp] theorem tplaces_132 : tplaces Tryd.prog 132 = none := by kernel_rfl
@[simp] theorem telem_132 : telem Tryd.prog 132 = none := by kernel_rfl
@[simp] theorem tint_132 : tint Tryd.prog 132 = some IntKind.i32 := by kernel_rfl
@[simp] theorem tsz_133 : tsz Tryd.prog 133 = some 11 := by kernel_rfl
@[simp] theorem tagg_133 : tagg Tryd.prog 133 = some true := by kernel_rfl
@[simp] theorem tzero_133 : tzero Tryd.prog 133 = some
  (Value.agg
    {
      toList :=
        [Value.int IntKind.u64 (Int.ofNat 0), Value.int IntKind.u64 (Int.ofNat 0), Value.int IntKind.u32 (Int.ofNat 0), Value.int IntKind.u8 (Int.ofNat 0), Value.int IntKind.u8 (Int.ofNat 0),
          Value.int IntKind.u8 (Int.ofNat 0), Value.int IntKind.u8 (Int.ofNat 0), Value.nilFunc, Value.pointer none, Value.int IntKind.i32 (Int.ofNat 0), Value.int IntKind.i32 (Int.ofNat 0)] }) := by kernel_rfl
@[simp] theorem tplaces_133 : tplaces Tryd.prog 133 = some [(0, 1), (1, 1), (2, 1), (3, 1), (4, 1), (5, 1), (6, 1), (7, 1), (8, 1), (9, 1), (10, 1)] := by kernel_rfl
@[simp] theorem telem_133 : telem Tryd.prog 133 = none := by kernel_rfl
@[simp] theorem tint_133 : tint Tryd.prog 133 = none := by kernel_rfl
@[simp] theorem tfld_133_0 : tfld Tryd.prog 133 0 = some (0, 12) := by kernel_rfl
@[simp] theorem tfld_133_1 : tfld Tryd.prog 133 1 = some (1, 12) := by kernel_rfl
@[simp] theorem tfld_133_2 : tfld Tryd.prog 133 2 = some (2, 113) := by kernel_rfl
@[simp] theorem tfld_133_3 : tfld Tryd.prog 133 3 = some (3, 128) := by kernel_rfl
@[simp] theorem tfld_133_4 : tfld Tryd.prog 133 4 = some (4, 5) := by kernel_rfl
@[simp] theorem tfld_133_5 : tfld Tryd.prog 133 5 = some (5, 5) := by kernel_rfl
@[simp] theorem tfld_133_6 : tfld Tryd.prog 133 6 = some (6, 81) := by kernel_rfl
@[simp] theorem tfld_133_7 : tfld Tryd.prog 133 7 = some (7, 129) := by kernel_rfl
@[simp] theorem tfld_133_8 : tfld Tryd.prog 133 8 = some (8, 130) := by kernel_rfl
@[simp] theorem tfld_133_9 : tfld Tryd.prog 133 9 = some (9, 131) := by kernel_rfl
@[simp] theorem tfld_133_10 : tfld Tryd.prog 133 10 = some (10, 132) := by kernel_rfl
@[simp] theorem tsz_134 : tsz Tryd.prog 134 = some 11 := by kernel_rfl
@[simp] theorem tagg_134 : tagg Tryd.prog 134 = some true := by kernel_rfl
@[simp] theorem tzero_134 : tzero Tryd.prog 134 = some
  (Value.agg
    {
      toList :=
        [Value.int IntKind.u64 (Int.ofNat 0), Value.int IntKind.u64 (Int.ofNat 0), Value.int IntKind.u32 (Int.ofNat 0), Value.int IntKind.u8 (Int.ofNat 0), Value.int IntKind.u8 (Int.ofNat 0),
          Value.int IntKind.u8 (Int.ofNat 0), Value.int IntKind.u8 (Int.ofNat 0), Value.nilFunc, Value.pointer none, Value.int IntKind.i32 (Int.ofNat 0), Value.int IntKind.i32 (Int.ofNat 0)] }) := by kernel_rfl
@[simp] theorem tplaces_134 : tplaces Tryd.prog 134 = some [(0, 1), (1, 1), (2, 1), (3, 1), (4, 1), (5, 1), (6, 1), (7, 1), (8, 1), (9, 1), (10, 1)] := by kernel_rfl
@[simp] theorem telem_134 : telem Tryd.prog 134 = none := by kernel_rfl
@[simp] theorem tint_134 : tint Tryd.prog 134 = none := by kernel_rfl
@[simp] theorem tfld_134_0 : tfld Tryd.prog 134 0 = some (0, 12) := by kernel_rfl
@[simp] theorem tfld_134_1 : tfld Tryd.prog 134 1 = some (1, 12) := by kernel_rfl
@[simp] theorem tfld_134_2 : tfld Tryd.prog 134 2 = some (2, 113) := by kernel_rfl
@[simp] theorem tfld_134_3 : tfld Tryd.prog 134 3 = some (3, 128) := by kernel_rfl
@[simp] theorem tfld_134_4 : tfld Tryd.prog 134 4 = some (4, 5) := by kernel_rfl
@[simp] theorem tfld_134_5 : tfld Tryd.prog 134 5 = some (5, 5) := by kernel_rfl
@[simp] theorem tfld_134_6 : tfld Tryd.prog 134 6 = some (6, 81) := by kernel_rfl
@[simp] theorem tfld_134_7 : tfld Tryd.prog 134 7 = some (7, 129) := by kernel_rfl
@[simp] theorem tfld_134_8 : tfld Tryd.prog 134 8 = some (8, 130) := by kernel_rfl
@[simp] theorem tfld_134_9 : tfld Tryd.prog 134 9 = some (9, 131) := by kernel_rfl
@[simp] theorem tfld_134_10 : tfld Tryd.prog 134 10 = some (10, 132) := by kernel_rfl
@[simp] theorem tsz_135 : tsz Tryd.prog 135 = some 1 := by kernel_rfl
@[simp] theorem tagg_135 : tagg Tryd.prog 135 = some false := by kernel_rfl
@[simp] theorem tzero_135 : tzero Tryd.prog 135 = some Value.nilFunc := by kernel_rfl
@[simp] theorem tplaces_135 : tplaces Tryd.prog 135 = none := by kernel_rfl
@[simp] theorem telem_135 : telem Tryd.prog 135 = none := by kernel_rfl
@[simp] theorem tint_135 : tint Tryd.prog 135 = none := by kernel_rfl
@[simp] theorem tsz_136 : tsz Tryd.prog 136 = some 1 := by kernel_rfl
@[simp] theorem tagg_136 : tagg Tryd.prog 136 = some false := by kernel_rfl
@[simp] theorem tzero_136 : tzero Tryd.prog 136 = some Value.nilFunc := by kernel_rfl
@[simp] theorem tplaces_136 : tplaces Tryd.prog 136 = none := by kernel_rfl
@[simp] theorem telem_136 : telem Tryd.prog 136 = none := by kernel_rfl
@[simp] theorem tint_136 : tint Tryd.prog 136 = none := by kernel_rfl
@[simp] theorem tsz_137 : tsz Tryd.prog 137 = some 2 := by kernel_rfl
@[simp] theorem tagg_137 : tagg Tryd.prog 137 = some true := by kernel_rfl
@[simp] theorem tzero_137 : tzero Tryd.prog 137 = some (Value.agg { toList := [Value.string { data := { toList := [] } }, Value.int IntKind.u8 (Int.ofNat 0)] }) := by kernel_rfl
@[simp] theorem tplaces_137 : tplaces Tryd.prog 137 = some [(0, 1), (1, 1)] := by kernel_rfl
@[simp] theorem telem_137 : telem Tryd.prog 137 = none := by kernel_rfl
@[simp] theorem tint_137 : tint Tryd.prog 137 = none := by kernel_rfl
@[simp] theorem tfld_137_0 : tfld Tryd.prog 137 0 = some (0, 9) := by kernel_rfl
@[simp] theorem tfld_137_1 : tfld Tryd.prog 137 1 = some (1, 81) := by kernel_rfl
@[simp] theorem tsz_138 : tsz Tryd.prog 138 = some 2 := by kernel_rfl
@[simp] theorem tagg_138 : tagg Tryd.prog 138 = some true := by kernel_rfl
@[simp] theorem tzero_138 : tzero Tryd.prog 138 = some (Value.agg { toList := [Value.string { data := { toList := [] } }, Value.int IntKind.u8 (Int.ofNat 0)] }) := by kernel_rfl
@[simp] theorem tplaces_138 : tplaces Tryd.prog 138 = some [(0, 1), (1, 1)] := by kernel_rfl
@[simp] theorem telem_138 : telem Tryd.prog 138 = none := by kernel_rfl
@[simp] theorem tint_138 : tint Tryd.prog 138 = none := by kernel_rfl
@[simp] theorem tfld_138_0 : tfld Tryd.prog 138 0 = some (0, 9) := by kernel_rfl
@[simp] theorem tfld_138_1 : tfld Tryd.prog 138 1 = some (1, 81) := by kernel_rfl
@[simp] theorem tsz_139 : tsz Tryd.prog 139 = some 1 := by kernel_rfl
@[simp] theorem tagg_139 : tagg Tryd.prog 139 = some false := by kernel_rfl
@[simp] theorem tzero_139 : tzero Tryd.prog 139 = some (Value.pointer none) := by kernel_rfl
@[simp] theorem tplaces_139 : tplaces Tryd.prog 139 = none := by kernel_rfl
@[simp] theorem telem_139 : telem Tryd.prog 139 = none := by kernel_rfl
@[simp] theorem tint_139 : tint Tryd.prog 139 = none := by kernel_rfl
@[simp] theorem tsz_140 : tsz Tryd.prog 140 = some 1 := by kernel_rfl
@[simp] theorem tagg_140 : tagg Tryd.prog 140 = some false := by kernel_rfl
@[simp] theorem tzero_140 : tzero Tryd.prog 140 = some Value.nilFunc := by kernel_rfl
@[simp] theorem tplaces_140 : tplaces Tryd.prog 140 = none := by kernel_rfl
@[simp] theorem telem_140 : telem Tryd.prog 140 = none := by kernel_rfl
@[simp] theorem tint_140 : tint Tryd.prog 140 = none := by kernel_rfl
@[simp] theorem tsz_141 : tsz Tryd.prog 141 = some 1 := by kernel_rfl
@[simp] theorem tagg_141 : tagg Tryd.prog 141 = some false := by kernel_rfl
@[simp] theorem tzero_141 : tzero Tryd.prog 141 = some (Value.int IntKind.u16 (Int.ofNat 0)) := by kernel_rfl
@[simp] theorem tplaces_141 : tplaces Tryd.prog 141 = none := by kernel_rfl
@[simp] theorem telem_141 : telem Tryd.prog 141 = none := by kernel_rfl
@[simp] theorem tint_141 : tint Tryd.prog 141 = some IntKind.u16 := by kernel_rfl
@[simp] theorem tsz_142 : tsz Tryd.prog 142 = some 5 := by kernel_rfl
@[simp] theorem tagg_142 : tagg Tryd.prog 142 = some true := by kernel_rfl
@[simp] theorem tzero_142 : tzero Tryd.prog 142 = some
  (Value.agg
    {
      toList :=
        [Value.int IntKind.i32 (Int.ofNat 0), Value.int IntKind.u16 (Int.ofNat 0), Value.int IntKind.u16 (Int.ofNat 0), Value.int IntKind.u32 (Int.ofNat 0), Value.int IntKind.u32 (Int.ofNat 0)] }) := by kernel_rfl
@[simp] theorem tplaces_142 : tplaces Tryd.prog 142 = some [(0, 1), (1, 1), (2, 1), (3, 1), (4, 1)] := by kernel_rfl
@[simp] theorem telem_142 : telem Tryd.prog 142 = none := by kernel_rfl
@[simp] theorem tint_142 : tint Tryd.prog 142 = none := by kernel_rfl
@[simp] theorem tfld_142_0 : tfld Tryd.prog 142 0 = some (0, 131) := by kernel_rfl
@[simp] theorem tfld_142_1 : tfld Tryd.prog 142 1 = some (1, 141) := by kernel_rfl
@[simp] theorem tfld_142_2 : tfld Tryd.prog 142 2 = some (2, 141) := by kernel_rfl
@[simp] theorem tfld_142_3 : tfld Tryd.prog 142 3 = some (3, 113) := by kernel_rfl
@[simp] theorem tfld_142_4 : tfld Tryd.prog 142 4 = some (4, 113) := by kernel_rfl
@[simp] theorem tsz_143 : tsz Tryd.prog 143 = some 5 := by kernel_rfl
@[simp] theorem tagg_143 : tagg Tryd.prog 143 = some true := by kernel_rfl
@[simp] theorem tzero_143 : tzero Tryd.prog 143 = some
  (Value.agg
    {
      toList :=
        [Value.int IntKind.i32 (Int.ofNat 0), Value.int IntKind.u16 (Int.ofNat 0), Value.int IntKind.u16 (Int.ofNat 0), Value.int IntKind.u32 (Int.ofNat 0), Value.int IntKind.u32 (Int.ofNat 0)] }) := by kernel_rfl
@[simp] theorem tplaces_143 : tplaces Tryd.prog 143 = some [(0, 1), (1, 1), (2, 1), (3, 1), (4, 1)] := by kernel_rfl
@[simp] theorem telem_143 : telem Tryd.prog 143 = none := by kernel_rfl
@[simp] theorem tint_143 : tint Tryd.prog 143 = none := by kernel_rfl
@[simp] theorem tfld_143_0 : tfld Tryd.prog 143 0 = some (0, 131) := by kernel_rfl
@[simp] theorem tfld_143_1 : tfld Tryd.prog 143 1 = some (1, 141) := by kernel_rfl
@[simp] theorem tfld_143_2 : tfld Tryd.prog 143 2 = some (2, 141) := by kernel_rfl
@[simp] theorem tfld_143_3 : tfld Tryd.prog 143 3 = some (3, 113) := by kernel_rfl
@[simp] theorem tfld_143_4 : tfld Tryd.prog 143 4 = some (4, 113) := by kernel_rfl
@[simp] theorem tsz_144 : tsz Tryd.prog 144 = some 1 := by kernel_rfl
@[simp] theorem tagg_144 : tagg Tryd.prog 144 = some false := by kernel_rfl
@[simp] theorem tzero_144 : tzero Tryd.prog 144 = some (Value.slice none 0 0) := by kernel_rfl
@[simp] theorem tplaces_144 : tplaces Tryd.prog 144 = none := by kernel_rfl
@[simp] theorem telem_144 : telem Tryd.prog 144 = some (none, 147, 4) := by kernel_rfl
@[simp] theorem tint_144 : tint Tryd.prog 144 = none := by kernel_rfl
@[simp] theorem tsz_145 : tsz Tryd.prog 145 = some 1 := by kernel_rfl
@[simp] theorem tagg_145 : tagg Tryd.prog 145 = some false := by kernel_rfl
@[simp] theorem tzero_145 : tzero Tryd.prog 145 = some (Value.int IntKind.i32 (Int.ofNat 0)) := by kernel_rfl
@[simp] theorem tplaces_145 : tplaces Tryd.prog 145 = none := by kernel_rfl
@[simp] theorem telem_145 : telem Tryd.prog 145 = none := by kernel_rfl
@[simp] theorem tint_145 : tint Tryd.prog 145 = some IntKind.i32 := by kernel_rfl
@[simp] theorem tsz_146 : tsz Tryd.prog 146 = some 4 := by kernel_rfl
@[simp] theorem tagg_146 : tagg Tryd.prog 146 = some true := by kernel_rfl
@[simp] theorem tzero_146 : tzero Tryd.prog 146 = some (Value.agg { toList := [Value.int IntKind.i32 (Int.ofNat 0), Value.int IntKind.i32 (Int.ofNat 0), Value.int IntKind.i32 (Int.ofNat 0), Value.int IntKind.i32 (Int.ofNat 0)] }) := by kernel_rfl
@[simp] theorem tplaces_146 : tplaces Tryd.prog 146 = some [(0, 1), (1, 1), (2, 1), (3, 1)] := by kernel_rfl
@[simp] theorem telem_146 : telem Tryd.prog 146 = none := by kernel_rfl
@[simp] theorem tint_146 : tint Tryd.prog 146 = none := by kernel_rfl
@[simp] theorem tfld_146_0 : tfld Tryd.prog 146 0 = some (0, 131) := by kernel_rfl
@[simp] theorem tfld_146_1 : tfld Tryd.prog 146 1 = some (1, 132) := by kernel_rfl
@[simp] theorem tfld_146_2 : tfld Tryd.prog 146 2 = some (2, 145) := by kernel_rfl
@[simp] theorem tfld_146_3 : tfld Tryd.prog 146 3 = some (3, 145) := by kernel_rfl
@[simp] theorem tsz_147 : tsz Tryd.prog 147 = some 4 := by kernel_rfl
@[simp] theorem tagg_147 : tagg Tryd.prog 147 = some true := by kernel_rfl
@[simp] theorem tzero_147 : tzero Tryd.prog 147 = some (Value.agg { toList := [Value.int IntKind.i32 (Int.ofNat 0), Value.int IntKind.i32 (Int.ofNat 0), Value.int IntKind.i32 (Int.ofNat 0), Value.int IntKind.i32 (Int.ofNat 0)] }) := by kernel_rfl
@[simp] theorem tplaces_147 : tplaces Tryd.prog 147 = some [(0, 1), (1, 1), (2, 1), (3, 1)] := by kernel_rfl
@[simp] theorem telem_147 : telem Tryd.prog 147 = none := by kernel_rfl
@[simp] theorem tint_147 : tint Tryd.prog 147 = none := by kernel_rfl
@[simp] theorem tfld_147_0 : tfld Tryd.prog 147 0 = some (0, 131) := by kernel_rfl
@[simp] theorem tfld_147_1 : tfld Tryd.prog 147 1 = some (1, 132) := by kernel_rfl
@[simp] theorem tfld_147_2 : tfld Tryd.prog 147 2 = some (2, 145) := by kernel_rfl
@[simp] theorem tfld_147_3 : tfld Tryd.prog 147 3 = some (3, 145) := by kernel_rfl
@[simp] theorem tsz_148 : tsz Tryd.prog 148 = some 1 := by kernel_rfl
@[simp] theorem tagg_148 : tagg Tryd.prog 148 = some false := by kernel_rfl
@[simp] theorem tzero_148 : tzero Tryd.prog 148 = some (Value.pointer none) := by kernel_rfl
@[simp] theorem tplaces_148 : tplaces Tryd.prog 148 = none := by kernel_rfl
@[simp] theorem telem_148 : telem Tryd.prog 148 = none := by kernel_rfl
@[simp] theorem tint_148 : tint Tryd.prog 148 = none := by kernel_rfl
@[simp] theorem ent_0 : enters Tryd.prog 0 = false := by kernel_rfl
@[simp] theorem ent_1 : enters Tryd.prog 1 = false := by kernel_rfl
@[simp] theorem ent_2 : enters Tryd.prog 2 = true := by kernel_rfl
@[simp] theorem ent_3 : enters Tryd.prog 3 = true := by kernel_rfl
@[simp] theorem ent_4 : enters Tryd.prog 4 = true := by kernel_rfl
@[simp] theorem ent_5 : enters Tryd.prog 5 = true := by kernel_rfl
@[simp] theorem ent_6 : enters Tryd.prog 6 = true := by kernel_rfl
@[simp] theorem ent_7 : enters Tryd.prog 7 = true := by kernel_rfl
@[simp] theorem ent_8 : enters Tryd.prog 8 = true := by kernel_rfl
@[simp] theorem ent_9 : enters Tryd.prog 9 = true := by kernel_rfl
@[simp] theorem ent_10 : enters Tryd.prog 10 = true := by kernel_rfl
@[simp] theorem ent_11 : enters Tryd.prog 11 = true := by kernel_rfl
@[simp] theorem ent_12 : enters Tryd.prog 12 = true := by kernel_rfl
@[simp] theorem ent_13 : enters Tryd.prog 13 = true := by kernel_rfl
@[simp] theorem ent_14 : enters Tryd.prog 14 = true := by kernel_rfl
@[simp] theorem ent_15 : enters Tryd.prog 15 = true := by kernel_rfl
@[simp] theorem ent_16 : enters Tryd.prog 16 = true := by kernel_rfl
@[simp] theorem ent_17 : enters Tryd.prog 17 = true := by kernel_rfl
@[simp] theorem ent_18 : enters Tryd.prog 18 = true := by kernel_rfl
@[simp] theorem ent_19 : enters Tryd.prog 19 = true := by kernel_rfl
@[simp] theorem ent_20 : enters Tryd.prog 20 = true := by kernel_rfl
@[simp] theorem ent_21 : enters Tryd.prog 21 = true := by kernel_rfl
@[simp] theorem ent_22 : enters Tryd.prog 22 = true := by kernel_rfl
@[simp] theorem ent_23 : enters Tryd.prog 23 = true := by kernel_rfl
@[simp] theorem ent_24 : enters Tryd.prog 24 = true := by kernel_rfl
@[simp] theorem ent_25 : enters Tryd.prog 25 = true := by kernel_rfl
@[simp] theorem ent_26 : enters Tryd.prog 26 = true := by kernel_rfl
@[simp] theorem ent_27 : enters Tryd.prog 27 = true := by kernel_rfl
@[simp] theorem ent_28 : enters Tryd.prog 28 = true := by kernel_rfl
@[simp] theorem ent_29 : enters Tryd.prog 29 = true := by kernel_rfl
@[simp] theorem ent_30 : enters Tryd.prog 30 = true := by kernel_rfl
@[simp] theorem ent_31 : enters Tryd.prog 31 = true := by kernel_rfl
@[simp] theorem ent_32 : enters Tryd.prog 32 = true := by kernel_rfl
@[simp] theorem ent_33 : enters Tryd.prog 33 = false := by kernel_rfl
@[simp] theorem ent_34 : enters Tryd.prog 34 = false := by kernel_rfl
@[simp] theorem ent_35 : enters Tryd.prog 35 = false := by kernel_rfl
@[simp] theorem ent_36 : enters Tryd.prog 36 = true := by kernel_rfl
@[simp] theorem ent_37 : enters Tryd.prog 37 = false := by kernel_rfl
@[simp] theorem ent_38 : enters Tryd.prog 38 = true := by kernel_rfl
@[simp] theorem ent_39 : enters Tryd.prog 39 = true := by kernel_rfl
@[simp] theorem ent_40 : enters Tryd.prog 40 = false := by kernel_rfl
@[simp] theorem ent_41 : enters Tryd.prog 41 = false := by kernel_rfl
@[simp] theorem ent_42 : enters Tryd.prog 42 = true := by kernel_rfl
@[simp] theorem ent_43 : enters Tryd.prog 43 = true := by kernel_rfl
@[simp] theorem ent_44 : enters Tryd.prog 44 = true := by kernel_rfl
@[simp] theorem ent_45 : enters Tryd.prog 45 = true := by kernel_rfl
@[simp] theorem ent_46 : enters Tryd.prog 46 = true := by kernel_rfl
@[simp] theorem ent_47 : enters Tryd.prog 47 = true := by kernel_rfl
@[simp] theorem ent_48 : enters Tryd.prog 48 = true := by kernel_rfl
@[simp] theorem ent_49 : enters Tryd.prog 49 = true := by kernel_rfl
@[simp] theorem ent_50 : enters Tryd.prog 50 = true := by kernel_rfl
@[simp] theorem ent_51 : enters Tryd.prog 51 = true := by kernel_rfl
@[simp] theorem ent_52 : enters Tryd.prog 52 = true := by kernel_rfl
@[simp] theorem ent_53 : enters Tryd.prog 53 = true := by kernel_rfl
@[simp] theorem ent_54 : enters Tryd.prog 54 = true := by kernel_rfl
@[simp] theorem ent_55 : enters Tryd.prog 55 = false := by kernel_rfl
@[simp] theorem ent_56 : enters Tryd.prog 56 = false := by kernel_rfl
@[simp] theorem ent_57 : enters Tryd.prog 57 = false := by kernel_rfl
@[simp] theorem ent_58 : enters Tryd.prog 58 = false := by kernel_rfl
@[simp] theorem ent_59 : enters Tryd.prog 59 = false := by kernel_rfl
@[simp] theorem ent_60 : enters Tryd.prog 60 = false := by kernel_rfl
@[simp] theorem ent_61 : enters Tryd.prog 61 = false := by kernel_rfl
@[simp] theorem ent_62 : enters Tryd.prog 62 = false := by kernel_rfl
@[simp] theorem ent_63 : enters Tryd.prog 63 = false := by kernel_rfl
@[simp] theorem ent_64 : enters Tryd.prog 64 = false := by kernel_rfl
@[simp] theorem ent_65 : enters Tryd.prog 65 = false := by kernel_rfl
@[simp] theorem ent_66 : enters Tryd.prog 66 = false := by kernel_rfl
@[simp] theorem ent_67 : enters Tryd.prog 67 = false := by kernel_rfl
@[simp] theorem ent_68 : enters Tryd.prog 68 = false := by kernel_rfl
@[simp] theorem ent_69 : enters Tryd.prog 69 = false := by kernel_rfl
@[simp] theorem ent_70 : enters Tryd.prog 70 = false := by kernel_rfl
@[simp] theorem ent_71 : enters Tryd.prog 71 = false := by kernel_rfl
@[simp] theorem ent_72 : enters Tryd.prog 72 = true := by kernel_rfl
@[simp] theorem ent_73 : enters Tryd.prog 73 = true := by kernel_rfl
@[simp] theorem ent_74 : enters Tryd.prog 74 = true := by kernel_rfl
@[simp] theorem ent_75 : enters Tryd.prog 75 = true := by kernel_rfl
@[simp] theorem ent_76 : enters Tryd.prog 76 = false := by kernel_rfl
@[simp] theorem ent_77 : enters Tryd.prog 77 = false := by kernel_rfl
@[simp] theorem ent_78 : enters Tryd.prog 78 = false := by kernel_rfl
@[simp] theorem ent_79 : enters Tryd.prog 79 = false := by kernel_rfl
@[simp] theorem ent_80 : enters Tryd.prog 80 = false := by kernel_rfl
@[simp] theorem ent_81 : enters Tryd.prog 81 = false := by kernel_rfl
@[simp] theorem ent_82 : enters Tryd.prog 82 = false := by kernel_rfl
@[simp] theorem ent_83 : enters Tryd.prog 83 = false := by kernel_rfl
@[simp] theorem ent_84 : enters Tryd.prog 84 = false := by kernel_rfl
@[simp] theorem ent_85 : enters Tryd.prog 85 = false := by kernel_rfl
@[simp] theorem ent_86 : enters Tryd.prog 86 = false := by kernel_rfl
@[simp] theorem ent_87 : enters Tryd.prog 87 = false := by kernel_rfl
@[simp] theorem ent_88 : enters Tryd.prog 88 = false := by kernel_rfl
@[simp] theorem ent_89 : enters Tryd.prog 89 = false := by kernel_rfl
@[simp] theorem ent_90 : enters Tryd.prog 90 = false := by kernel_rfl
@[simp] theorem ent_91 : enters Tryd.prog 91 = false := by kernel_rfl
@[simp] theorem ent_92 : enters Tryd.prog 92 = false := by kernel_rfl
@[simp] theorem ent_93 : enters Tryd.prog 93 = false := by kernel_rfl
@[simp] theorem ent_94 : enters Tryd.prog 94 = false := by kernel_rfl
@[simp] theorem ent_95 : enters Tryd.prog 95 = false := by kernel_rfl
@[simp] theorem ent_96 : enters Tryd.prog 96 = false := by kernel_rfl
@[simp] theorem ent_97 : enters Tryd.prog 97 = true := by kernel_rfl
end Go.Proofs.YtnoigkdecjeilaaDoor
