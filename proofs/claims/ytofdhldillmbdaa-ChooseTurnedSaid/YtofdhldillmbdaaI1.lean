/- Contracts of functions of the seat's program, and what follows of them: I1. Conditions are in each statement. -/
import Derived.Test.YtofdhldillmbdaaRows
import Derived.Test.YtofdhldillmbdaaV3
set_option linter.unusedSimpArgs false
set_option linter.unusedVariables false
namespace Go.Proofs.Ytofdhldillmbdaa
open Go Go.Proofs Go.Vm

def ic3 : IC :=
  (IC.ops [{ dst := some 4, op := Op.assign (Operand.const (Value.bool false)), guard := none }]).seq
  (((IC.ops
            [{ dst := some 12, op := Op.call { callee := Callee.value (Operand.func 11), args := { toList := [] }, argTypes := { toList := [] } }, guard := none },
              { dst := some 13, op := Op.unOp UnOp.not 4 (Operand.tmp 12), guard := none }]).seq
        (IC.cond (Operand.tmp 13) ((IC.ops [{ dst := some 4, op := Op.assign (Operand.const (Value.bool false)), guard := none }]).seq IC.ret) IC.skip)).seq
    ((IC.ops [{ dst := some 14, op := Op.move (Operand.tmp 0), guard := none }, { dst := some 5, op := Op.assign (Operand.tmp 14), guard := none }]).seq
      ((IC.ops
            [{ dst := some 15, op := Op.move (Operand.tmp 1), guard := none }, { dst := some 16, op := Op.convert 5 3 (Operand.tmp 15), guard := none },
              { dst := some 17, op := Op.binOp BinOp.rem 3 (Operand.tmp 16) (Operand.const (Value.int IntKind.i64 (Int.ofNat 16))) 3, guard := none },
              { dst := some 6, op := Op.assign (Operand.tmp 17), guard := none }]).seq
        ((IC.ops
              [{ dst := some 18, op := Op.move (Operand.tmp 5), guard := none },
                { dst := some 19, op := Op.call { callee := Callee.value (Operand.func 12), args := { toList := [Operand.tmp 18] }, argTypes := { toList := [23] } }, guard := none },
                { dst := some 7, op := Op.assign (Operand.tmp 19), guard := none }]).seq
          ((IC.ops
                [{ dst := some 8, op := Op.assign (Operand.const (Value.bool false)), guard := none }, { dst := some 9, op := Op.assign (Operand.const (Value.bool false)), guard := none },
                  { dst := some 10, op := Op.assign (Operand.const (Value.bool false)), guard := none }]).seq
            (((IC.ops
                      [{ dst := some 20, op := Op.move (Operand.tmp 7), guard := none },
                        { dst := some 21, op := Op.call { callee := Callee.builtin Builtin.len, args := { toList := [Operand.tmp 20] }, argTypes := { toList := [24] } }, guard := none },
                        { dst := some 22, op := Op.move (Operand.const (Value.int IntKind.i64 (Int.ofNat 0))), guard := none }]).seq
                  (IC.block 0
                    ((IC.ops [{ dst := some 23, op := Op.binOp BinOp.lss 3 (Operand.tmp 22) (Operand.tmp 21) 3, guard := none }]).seq
                        ((IC.cond (Operand.tmp 23) IC.skip (IC.exit 0)).seq
                          ((IC.block 1
                                ((IC.ops [{ dst := some 24, op := Op.move (Operand.tmp 22), guard := none }, { dst := some 11, op := Op.assign (Operand.tmp 24), guard := none }]).seq
                                  (((IC.opsD
                                            [{ dst := some 25, op := Op.move (Operand.tmp 11), guard := none },
                                              { dst := some 26, op := Op.binOp BinOp.gtr 3 (Operand.tmp 25) (Operand.const (Value.int IntKind.i64 (Int.ofNat 0))) 3, guard := none, bef := [0] },
                                              { dst := some 27, op := Op.move (Operand.tmp 26), guard := none, bef := [1, 0] },
                                              { dst := some 28, op := Op.move (Operand.tmp 7), guard := some (some 27, true), bef := [2, 1, 0] },
                                              { dst := some 29, op := Op.move (Operand.tmp 11), guard := some (some 27, true), bef := [2, 1, 0] },
                                              { dst := some 30, op := Op.indexAddr 24 (Operand.tmp 28) (Operand.tmp 29), guard := some (some 27, true), bef := [3, 2, 1, 0, 4] },
                                              { dst := some 31, op := Op.load 3 (Operand.tmp 30), guard := some (some 27, true), bef := [5, 3, 2, 1, 0, 4] },
                                              { dst := some 32, op := Op.move (Operand.tmp 7), guard := some (some 27, true), bef := [2, 1, 0] },
                                              { dst := some 33, op := Op.move (Operand.tmp 11), guard := some (some 27, true), bef := [2, 1, 0] },
                                              { dst := some 34, op := Op.binOp BinOp.sub 3 (Operand.tmp 33) (Operand.const (Value.int IntKind.i64 (Int.ofNat 1))) 3, guard := some (some 27, true),
                                                bef := [8, 2, 1, 0] },
                                              { dst := some 35, op := Op.indexAddr 24 (Operand.tmp 32) (Operand.tmp 34), guard := some (some 27, true), bef := [7, 2, 1, 0, 9, 8] },
                                              { dst := some 36, op := Op.load 3 (Operand.tmp 35), guard := some (some 27, true), bef := [10, 7, 2, 1, 0, 9, 8] },
                                              { dst := some 37, op := Op.binOp BinOp.leq 3 (Operand.tmp 31) (Operand.tmp 36) 3, guard := some (some 27, true),
                                                bef := [6, 5, 3, 2, 1, 0, 4, 11, 10, 7, 9, 8] },
                                              { dst := some 38, op := Op.pick (Operand.tmp 27) (Operand.tmp 37) (Operand.const (Value.bool false)), guard := none,
                                                bef := [2, 1, 0, 12, 6, 5, 3, 4, 11, 10, 7, 9, 8] },
                                              { dst := some 39, op := Op.move (Operand.tmp 38), guard := none, bef := [13, 2, 1, 0, 12, 6, 5, 3, 4, 11, 10, 7, 9, 8] },
                                              { dst := some 40, op := Op.move (Operand.tmp 5), guard := some (some 39, false), bef := [14, 13, 2, 1, 0, 12, 6, 5, 3, 4, 11, 10, 7, 9, 8] },
                                              { dst := some 41, op := Op.move (Operand.tmp 7), guard := some (some 39, false), bef := [14, 13, 2, 1, 0, 12, 6, 5, 3, 4, 11, 10, 7, 9, 8] },
                                              { dst := some 42, op := Op.move (Operand.tmp 11), guard := some (some 39, false), bef := [14, 13, 2, 1, 0, 12, 6, 5, 3, 4, 11, 10, 7, 9, 8] },
                                              { dst := some 43, op := Op.indexAddr 24 (Operand.tmp 41) (Operand.tmp 42), guard := some (some 39, false),
                                                bef := [16, 14, 13, 2, 1, 0, 12, 6, 5, 3, 4, 11, 10, 7, 9, 8, 17] },
                                              { dst := some 44, op := Op.load 3 (Operand.tmp 43), guard := some (some 39, false),
                                                bef := [18, 16, 14, 13, 2, 1, 0, 12, 6, 5, 3, 4, 11, 10, 7, 9, 8, 17] },
                                              { dst := some 45,
                                                op := Op.call { callee := Callee.value (Operand.func 13), args := { toList := [Operand.tmp 40, Operand.tmp 44] }, argTypes := { toList := [23, 3] } },
                                                guard := some (some 39, false), bef := [15, 14, 13, 2, 1, 0, 12, 6, 5, 3, 4, 11, 10, 7, 9, 8, 19, 18, 16, 17] },
                                              { dst := some 46, op := Op.unOp UnOp.not 4 (Operand.tmp 45), guard := some (some 39, false),
                                                bef := [20, 15, 14, 13, 2, 1, 0, 12, 6, 5, 3, 4, 11, 10, 7, 9, 8, 19, 18, 16, 17] },
                                              { dst := some 47, op := Op.pick (Operand.tmp 39) (Operand.const (Value.bool true)) (Operand.tmp 46), guard := none,
                                                bef := [14, 13, 2, 1, 0, 12, 6, 5, 3, 4, 11, 10, 7, 9, 8, 21, 20, 15, 19, 18, 16, 17] }]).seq
                                        (IC.cond (Operand.tmp 47) ((IC.ops [{ dst := some 4, op := Op.assign (Operand.const (Value.bool false)), guard := none }]).seq IC.ret) IC.skip)).seq
                                    (IC.opsD
                                      [{ dst := some 48, op := Op.move (Operand.tmp 8), guard := none }, { dst := some 49, op := Op.move (Operand.tmp 48), guard := none, bef := [0] },
                                        { dst := some 50, op := Op.move (Operand.tmp 7), guard := some (some 49, false), bef := [1, 0] },
                                        { dst := some 51, op := Op.move (Operand.tmp 11), guard := some (some 49, false), bef := [1, 0] },
                                        { dst := some 52, op := Op.indexAddr 24 (Operand.tmp 50) (Operand.tmp 51), guard := some (some 49, false), bef := [2, 1, 0, 3] },
                                        { dst := some 53, op := Op.load 3 (Operand.tmp 52), guard := some (some 49, false), bef := [4, 2, 1, 0, 3] },
                                        { dst := some 54, op := Op.move (Operand.tmp 6), guard := some (some 49, false), bef := [1, 0] },
                                        { dst := some 55, op := Op.binOp BinOp.gtr 3 (Operand.tmp 53) (Operand.tmp 54) 3, guard := some (some 49, false), bef := [5, 4, 2, 1, 0, 3, 6] },
                                        { dst := some 56, op := Op.pick (Operand.tmp 49) (Operand.const (Value.bool true)) (Operand.tmp 55), guard := none, bef := [1, 0, 7, 5, 4, 2, 3, 6] },
                                        { dst := some 57, op := Op.move (Operand.tmp 9), guard := none }, { dst := some 58, op := Op.move (Operand.tmp 57), guard := none, bef := [9, 1, 0] },
                                        { dst := some 59, op := Op.move (Operand.tmp 7), guard := some (some 58, false), bef := [10, 9, 1, 0] },
                                        { dst := some 60, op := Op.move (Operand.tmp 11), guard := some (some 58, false), bef := [10, 9, 1, 0] },
                                        { dst := some 61, op := Op.indexAddr 24 (Operand.tmp 59) (Operand.tmp 60), guard := some (some 58, false), bef := [11, 10, 9, 1, 0, 12] },
                                        { dst := some 62, op := Op.load 3 (Operand.tmp 61), guard := some (some 58, false), bef := [13, 11, 10, 9, 1, 0, 12] },
                                        { dst := some 63, op := Op.move (Operand.tmp 6), guard := some (some 58, false), bef := [10, 9, 1, 0] },
                                        { dst := some 64, op := Op.binOp BinOp.lss 3 (Operand.tmp 62) (Operand.tmp 63) 3, guard := some (some 58, false), bef := [14, 13, 11, 10, 9, 1, 0, 12, 15] },
                                        { dst := some 65, op := Op.pick (Operand.tmp 58) (Operand.const (Value.bool true)) (Operand.tmp 64), guard := none,
                                          bef := [10, 9, 1, 0, 16, 14, 13, 11, 12, 15] },
                                        { dst := some 66, op := Op.move (Operand.tmp 10), guard := none }, { dst := some 67, op := Op.move (Operand.tmp 66), guard := none, bef := [18, 10, 9, 1, 0] },
                                        { dst := some 68, op := Op.move (Operand.tmp 7), guard := some (some 67, false), bef := [19, 18, 10, 9, 1, 0] },
                                        { dst := some 69, op := Op.move (Operand.tmp 11), guard := some (some 67, false), bef := [19, 18, 10, 9, 1, 0] },
                                        { dst := some 70, op := Op.indexAddr 24 (Operand.tmp 68) (Operand.tmp 69), guard := some (some 67, false), bef := [20, 19, 18, 10, 9, 1, 0, 21] },
                                        { dst := some 71, op := Op.load 3 (Operand.tmp 70), guard := some (some 67, false), bef := [22, 20, 19, 18, 10, 9, 1, 0, 21] },
                                        { dst := some 72, op := Op.move (Operand.tmp 6), guard := some (some 67, false), bef := [19, 18, 10, 9, 1, 0] },
                                        { dst := some 73, op := Op.binOp BinOp.eql 3 (Operand.tmp 71) (Operand.tmp 72) 3, guard := some (some 67, false),
                                          bef := [23, 22, 20, 19, 18, 10, 9, 1, 0, 21, 24] },
                                        { dst := some 74, op := Op.pick (Operand.tmp 67) (Operand.const (Value.bool true)) (Operand.tmp 73), guard := none,
                                          bef := [19, 18, 10, 9, 1, 0, 25, 23, 22, 20, 21, 24] },
                                        { dst := some 8, op := Op.assign (Operand.tmp 56), guard := none, bef := [8, 1, 0, 7, 5, 4, 2, 3, 6, 19, 18, 10, 9] },
                                        { dst := some 9, op := Op.assign (Operand.tmp 65), guard := none, bef := [17, 10, 9, 1, 0, 16, 14, 13, 11, 12, 15, 27, 8, 7, 5, 4, 2, 3, 6, 19, 18] },
                                        { dst := some 10, op := Op.assign (Operand.tmp 74), guard := none,
                                          bef := [26, 19, 18, 10, 9, 1, 0, 25, 23, 22, 20, 21, 24, 28, 17, 16, 14, 13, 11, 12, 15, 27, 8, 7, 5, 4, 2, 3, 6] }])))).seq
                            (IC.ops
                              [{ dst := some 75, op := Op.binOp BinOp.add 3 (Operand.tmp 22) (Operand.const (Value.int IntKind.i64 (Int.ofNat 1))) 3, guard := none },
                                { dst := some 22, op := Op.move (Operand.tmp 75), guard := none }])))).loop)).seq
              ((IC.ops
                    [{ dst := some 76, op := Op.move (Operand.tmp 5), guard := none }, { dst := some 77, op := Op.move (Operand.tmp 6), guard := none },
                      { dst := some 78, op := Op.call { callee := Callee.value (Operand.func 14), args := { toList := [Operand.tmp 76, Operand.tmp 77] }, argTypes := { toList := [23, 3] } },
                        guard := none },
                      { dst := some 79, op := Op.move (Operand.tmp 8), guard := none }, { dst := some 80, op := Op.binOp BinOp.eql 4 (Operand.tmp 78) (Operand.tmp 79) 4, guard := none },
                      { dst := some 81, op := Op.move (Operand.tmp 80), guard := none }, { dst := some 82, op := Op.move (Operand.tmp 5), guard := some (some 81, true) },
                      { dst := some 83, op := Op.move (Operand.tmp 6), guard := some (some 81, true) },
                      { dst := some 84, op := Op.call { callee := Callee.value (Operand.func 15), args := { toList := [Operand.tmp 82, Operand.tmp 83] }, argTypes := { toList := [23, 3] } },
                        guard := some (some 81, true) },
                      { dst := some 85, op := Op.move (Operand.tmp 9), guard := some (some 81, true) },
                      { dst := some 86, op := Op.binOp BinOp.eql 4 (Operand.tmp 84) (Operand.tmp 85) 4, guard := some (some 81, true) },
                      { dst := some 87, op := Op.pick (Operand.tmp 81) (Operand.tmp 86) (Operand.const (Value.bool false)), guard := none },
                      { dst := some 88, op := Op.move (Operand.tmp 87), guard := none }, { dst := some 89, op := Op.move (Operand.tmp 5), guard := some (some 88, true) },
                      { dst := some 90, op := Op.move (Operand.tmp 6), guard := some (some 88, true) },
                      { dst := some 91, op := Op.call { callee := Callee.value (Operand.func 13), args := { toList := [Operand.tmp 89, Operand.tmp 90] }, argTypes := { toList := [23, 3] } },
                        guard := some (some 88, true) },
                      { dst := some 92, op := Op.move (Operand.tmp 10), guard := some (some 88, true) },
                      { dst := some 93, op := Op.binOp BinOp.eql 4 (Operand.tmp 91) (Operand.tmp 92) 4, guard := some (some 88, true) },
                      { dst := some 94, op := Op.pick (Operand.tmp 88) (Operand.tmp 93) (Operand.const (Value.bool false)), guard := none },
                      { dst := some 95, op := Op.move (Operand.tmp 94), guard := none }, { dst := some 96, op := Op.move (Operand.tmp 5), guard := some (some 95, true) },
                      { dst := some 97,
                        op :=
                          Op.call
                            { callee := Callee.value (Operand.func 14), args := { toList := [Operand.tmp 96, Operand.const (Value.int IntKind.i64 (Int.ofNat 15))] },
                              argTypes := { toList := [23, 3] } },
                        guard := some (some 95, true) },
                      { dst := some 98, op := Op.unOp UnOp.not 4 (Operand.tmp 97), guard := some (some 95, true) },
                      { dst := some 99, op := Op.pick (Operand.tmp 95) (Operand.tmp 98) (Operand.const (Value.bool false)), guard := none },
                      { dst := some 100, op := Op.move (Operand.tmp 99), guard := none }, { dst := some 101, op := Op.move (Operand.tmp 5), guard := some (some 100, true) },
                      { dst := some 102,
                        op :=
                          Op.call
                            { callee := Callee.value (Operand.func 15), args := { toList := [Operand.tmp 101, Operand.const (Value.int IntKind.i64 (Int.ofNat 0))] },
                              argTypes := { toList := [23, 3] } },
                        guard := some (some 100, true) },
                      { dst := some 103, op := Op.unOp UnOp.not 4 (Operand.tmp 102), guard := some (some 100, true) },
                      { dst := some 104, op := Op.pick (Operand.tmp 100) (Operand.tmp 103) (Operand.const (Value.bool false)), guard := none },
                      { dst := some 105, op := Op.move (Operand.tmp 104), guard := none }, { dst := some 106, op := Op.move (Operand.tmp 5), guard := some (some 105, true) },
                      { dst := some 107,
                        op :=
                          Op.call
                            { callee := Callee.value (Operand.func 14), args := { toList := [Operand.tmp 106, Operand.const (Value.int IntKind.i64 (Int.negSucc 0))] },
                              argTypes := { toList := [23, 3] } },
                        guard := some (some 105, true) },
                      { dst := some 108, op := Op.move (Operand.tmp 7), guard := some (some 105, true) },
                      { dst := some 109, op := Op.call { callee := Callee.builtin Builtin.len, args := { toList := [Operand.tmp 108] }, argTypes := { toList := [24] } },
                        guard := some (some 105, true) },
                      { dst := some 110, op := Op.binOp BinOp.gtr 3 (Operand.tmp 109) (Operand.const (Value.int IntKind.i64 (Int.ofNat 0))) 3, guard := some (some 105, true) },
                      { dst := some 111, op := Op.binOp BinOp.eql 4 (Operand.tmp 107) (Operand.tmp 110) 4, guard := some (some 105, true) },
                      { dst := some 112, op := Op.pick (Operand.tmp 105) (Operand.tmp 111) (Operand.const (Value.bool false)), guard := none },
                      { dst := some 113, op := Op.move (Operand.tmp 112), guard := none }, { dst := some 114, op := Op.move (Operand.tmp 5), guard := some (some 113, true) },
                      { dst := some 115,
                        op :=
                          Op.call
                            { callee := Callee.value (Operand.func 15), args := { toList := [Operand.tmp 114, Operand.const (Value.int IntKind.i64 (Int.ofNat 16))] },
                              argTypes := { toList := [23, 3] } },
                        guard := some (some 113, true) },
                      { dst := some 116, op := Op.move (Operand.tmp 7), guard := some (some 113, true) },
                      { dst := some 117, op := Op.call { callee := Callee.builtin Builtin.len, args := { toList := [Operand.tmp 116] }, argTypes := { toList := [24] } },
                        guard := some (some 113, true) },
                      { dst := some 118, op := Op.binOp BinOp.gtr 3 (Operand.tmp 117) (Operand.const (Value.int IntKind.i64 (Int.ofNat 0))) 3, guard := some (some 113, true) },
                      { dst := some 119, op := Op.binOp BinOp.eql 4 (Operand.tmp 115) (Operand.tmp 118) 4, guard := some (some 113, true) },
                      { dst := some 120, op := Op.pick (Operand.tmp 113) (Operand.tmp 119) (Operand.const (Value.bool false)), guard := none },
                      { dst := some 4, op := Op.assign (Operand.tmp 120), guard := none }]).seq
                IC.ret)))))))
theorem ic3_eq : Try.f3.body.map comp = some ic3 := by kernel_rfl
theorem ic3_ok : Try.f3.body.map (okC Try.f3.ntmps) = some true := by kernel_rfl
theorem ic3_nm : (Try.f3.name != "runtime.NumGoroutine") = true := by kernel_rfl
@[simp] theorem ic3_n : Try.f3.ntmps = 121 := by kernel_rfl
@[simp] theorem ic3_r : Try.f3.results.toList = [ResultVar.tmp 4] := by kernel_rfl

def ic4 : IC :=
  (IC.ops [{ dst := some 4, op := Op.assign (Operand.const (Value.bool false)), guard := none }]).seq
  (((IC.ops
            [{ dst := some 10, op := Op.call { callee := Callee.value (Operand.func 11), args := { toList := [] }, argTypes := { toList := [] } }, guard := none },
              { dst := some 11, op := Op.unOp UnOp.not 4 (Operand.tmp 10), guard := none }]).seq
        (IC.cond (Operand.tmp 11) ((IC.ops [{ dst := some 4, op := Op.assign (Operand.const (Value.bool false)), guard := none }]).seq IC.ret) IC.skip)).seq
    ((IC.ops [{ dst := some 12, op := Op.move (Operand.tmp 0), guard := none }, { dst := some 5, op := Op.assign (Operand.tmp 12), guard := none }]).seq
      ((IC.ops
            [{ dst := some 13, op := Op.move (Operand.tmp 5), guard := none },
              { dst := some 14, op := Op.call { callee := Callee.value (Operand.func 12), args := { toList := [Operand.tmp 13] }, argTypes := { toList := [23] } }, guard := none },
              { dst := some 15, op := Op.call { callee := Callee.builtin Builtin.len, args := { toList := [Operand.tmp 14] }, argTypes := { toList := [24] } }, guard := none },
              { dst := some 6, op := Op.assign (Operand.tmp 15), guard := none }]).seq
        (((IC.ops
                  [{ dst := some 16, op := Op.move (Operand.tmp 6), guard := none },
                    { dst := some 17, op := Op.binOp BinOp.gtr 3 (Operand.tmp 16) (Operand.const (Value.int IntKind.i64 (Int.ofNat 16))) 3, guard := none }]).seq
              (IC.cond (Operand.tmp 17) ((IC.ops [{ dst := some 4, op := Op.assign (Operand.const (Value.bool false)), guard := none }]).seq IC.ret) IC.skip)).seq
          (((IC.ops [{ dst := some 18, op := Op.move (Operand.const (Value.int IntKind.i64 (Int.ofNat 0))), guard := none }]).seq
                (IC.block 0
                  ((IC.ops [{ dst := some 19, op := Op.binOp BinOp.lss 3 (Operand.tmp 18) (Operand.const (Value.int IntKind.i64 (Int.ofNat 16))) 3, guard := none }]).seq
                      ((IC.cond (Operand.tmp 19) IC.skip (IC.exit 0)).seq
                        ((IC.block 1
                              ((IC.ops [{ dst := some 20, op := Op.move (Operand.tmp 18), guard := none }, { dst := some 7, op := Op.assign (Operand.tmp 20), guard := none }]).seq
                                ((IC.ops
                                      [{ dst := some 21, op := Op.move (Operand.tmp 7), guard := none },
                                        { dst := some 22, op := Op.binOp BinOp.mul 3 (Operand.tmp 21) (Operand.const (Value.int IntKind.i64 (Int.ofNat 7))) 3, guard := none },
                                        { dst := some 23, op := Op.move (Operand.tmp 1), guard := none }, { dst := some 24, op := Op.convert 5 3 (Operand.tmp 23), guard := none },
                                        { dst := some 25, op := Op.binOp BinOp.add 3 (Operand.tmp 22) (Operand.tmp 24) 3, guard := none },
                                        { dst := some 26, op := Op.binOp BinOp.rem 3 (Operand.tmp 25) (Operand.const (Value.int IntKind.i64 (Int.ofNat 16))) 3, guard := none },
                                        { dst := some 8, op := Op.assign (Operand.tmp 26), guard := none }]).seq
                                  ((IC.ops
                                        [{ dst := some 27, op := Op.move (Operand.tmp 5), guard := none }, { dst := some 28, op := Op.move (Operand.tmp 8), guard := none },
                                          { dst := some 29,
                                            op := Op.call { callee := Callee.value (Operand.func 13), args := { toList := [Operand.tmp 27, Operand.tmp 28] }, argTypes := { toList := [23, 3] } },
                                            guard := none },
                                          { dst := some 9, op := Op.assign (Operand.tmp 29), guard := none }]).seq
                                    ((IC.ops
                                          [{ dst := some 30, op := Op.move (Operand.tmp 5), guard := none }, { dst := some 31, op := Op.move (Operand.tmp 8), guard := none },
                                            { dst := some 32,
                                              op := Op.call { callee := Callee.value (Operand.func 16), args := { toList := [Operand.tmp 30, Operand.tmp 31] }, argTypes := { toList := [23, 3] } },
                                              guard := none },
                                            { dst := some 5, op := Op.assign (Operand.tmp 32), guard := none }]).seq
                                      (((IC.ops [{ dst := some 33, op := Op.move (Operand.tmp 9), guard := none }]).seq
                                            (IC.cond (Operand.tmp 33)
                                              (IC.ops
                                                [{ dst := some 34, op := Op.move (Operand.tmp 6), guard := none },
                                                  { dst := some 35, op := Op.binOp BinOp.sub 3 (Operand.tmp 34) (Operand.const (Value.int IntKind.i64 (Int.ofNat 1))) 3, guard := none },
                                                  { dst := some 6, op := Op.assign (Operand.tmp 35), guard := none }])
                                              IC.skip)).seq
                                        ((IC.ops
                                              [{ dst := some 36, op := Op.move (Operand.tmp 5), guard := none }, { dst := some 37, op := Op.move (Operand.tmp 8), guard := none },
                                                { dst := some 38,
                                                  op := Op.call { callee := Callee.value (Operand.func 13), args := { toList := [Operand.tmp 36, Operand.tmp 37] }, argTypes := { toList := [23, 3] } },
                                                  guard := none },
                                                { dst := some 39, op := Op.move (Operand.tmp 38), guard := none }, { dst := some 40, op := Op.move (Operand.tmp 5), guard := some (some 39, false) },
                                                { dst := some 41, op := Op.call { callee := Callee.value (Operand.func 12), args := { toList := [Operand.tmp 40] }, argTypes := { toList := [23] } },
                                                  guard := some (some 39, false) },
                                                { dst := some 42, op := Op.call { callee := Callee.builtin Builtin.len, args := { toList := [Operand.tmp 41] }, argTypes := { toList := [24] } },
                                                  guard := some (some 39, false) },
                                                { dst := some 43, op := Op.move (Operand.tmp 6), guard := some (some 39, false) },
                                                { dst := some 44, op := Op.binOp BinOp.neq 3 (Operand.tmp 42) (Operand.tmp 43) 3, guard := some (some 39, false) },
                                                { dst := some 45, op := Op.pick (Operand.tmp 39) (Operand.const (Value.bool true)) (Operand.tmp 44), guard := none }]).seq
                                          (IC.cond (Operand.tmp 45) ((IC.ops [{ dst := some 4, op := Op.assign (Operand.const (Value.bool false)), guard := none }]).seq IC.ret) IC.skip)))))))).seq
                          (IC.ops
                            [{ dst := some 46, op := Op.binOp BinOp.add 3 (Operand.tmp 18) (Operand.const (Value.int IntKind.i64 (Int.ofNat 1))) 3, guard := none },
                              { dst := some 18, op := Op.move (Operand.tmp 46), guard := none }])))).loop)).seq
            ((IC.ops
                  [{ dst := some 47, op := Op.move (Operand.tmp 6), guard := none },
                    { dst := some 48, op := Op.binOp BinOp.eql 3 (Operand.tmp 47) (Operand.const (Value.int IntKind.i64 (Int.ofNat 0))) 3, guard := none },
                    { dst := some 49, op := Op.move (Operand.tmp 48), guard := none }, { dst := some 50, op := Op.move (Operand.tmp 5), guard := some (some 49, true) },
                    { dst := some 51, op := Op.binOp BinOp.eql 23 (Operand.tmp 50) (Operand.const (Value.int IntKind.i64 (Int.ofNat 0))) 23, guard := some (some 49, true) },
                    { dst := some 52, op := Op.pick (Operand.tmp 49) (Operand.tmp 51) (Operand.const (Value.bool false)), guard := none },
                    { dst := some 53, op := Op.move (Operand.tmp 52), guard := none }, { dst := some 54, op := Op.move (Operand.tmp 5), guard := some (some 53, true) },
                    { dst := some 55,
                      op :=
                        Op.call
                          { callee := Callee.value (Operand.func 14), args := { toList := [Operand.tmp 54, Operand.const (Value.int IntKind.i64 (Int.negSucc 0))] },
                            argTypes := { toList := [23, 3] } },
                      guard := some (some 53, true) },
                    { dst := some 56, op := Op.unOp UnOp.not 4 (Operand.tmp 55), guard := some (some 53, true) },
                    { dst := some 57, op := Op.pick (Operand.tmp 53) (Operand.tmp 56) (Operand.const (Value.bool false)), guard := none },
                    { dst := some 58, op := Op.move (Operand.tmp 57), guard := none }, { dst := some 59, op := Op.move (Operand.tmp 5), guard := some (some 58, true) },
                    { dst := some 60,
                      op :=
                        Op.call
                          { callee := Callee.value (Operand.func 15), args := { toList := [Operand.tmp 59, Operand.const (Value.int IntKind.i64 (Int.ofNat 16))] }, argTypes := { toList := [23, 3] } },
                      guard := some (some 58, true) },
                    { dst := some 61, op := Op.unOp UnOp.not 4 (Operand.tmp 60), guard := some (some 58, true) },
                    { dst := some 62, op := Op.pick (Operand.tmp 58) (Operand.tmp 61) (Operand.const (Value.bool false)), guard := none },
                    { dst := some 4, op := Op.assign (Operand.tmp 62), guard := none }]).seq
              IC.ret))))))
theorem ic4_eq : Try.f4.body.map comp = some ic4 := by kernel_rfl
theorem ic4_ok : Try.f4.body.map (okC Try.f4.ntmps) = some true := by kernel_rfl
theorem ic4_nm : (Try.f4.name != "runtime.NumGoroutine") = true := by kernel_rfl
@[simp] theorem ic4_n : Try.f4.ntmps = 63 := by kernel_rfl
@[simp] theorem ic4_r : Try.f4.results.toList = [ResultVar.tmp 4] := by kernel_rfl

def ic5 : IC :=
  (IC.ops [{ dst := some 6, op := Op.assign (Operand.const (Value.bool false)), guard := none }]).seq
  (((IC.ops
            [{ dst := some 13, op := Op.call { callee := Callee.value (Operand.func 17), args := { toList := [] }, argTypes := { toList := [] } }, guard := none },
              { dst := some 14, op := Op.unOp UnOp.not 4 (Operand.tmp 13), guard := none }, { dst := some 15, op := Op.move (Operand.tmp 14), guard := none },
              { dst := some 16, op := Op.move (Operand.tmp 1), guard := some (some 15, false) },
              { dst := some 17, op := Op.call { callee := Callee.value (Operand.func 18), args := { toList := [Operand.tmp 16] }, argTypes := { toList := [3] } }, guard := some (some 15, false) },
              { dst := some 18, op := Op.unOp UnOp.not 4 (Operand.tmp 17), guard := some (some 15, false) },
              { dst := some 19, op := Op.pick (Operand.tmp 15) (Operand.const (Value.bool true)) (Operand.tmp 18), guard := none }]).seq
        (IC.cond (Operand.tmp 19)
          ((IC.ops
                [{ dst := some 20, op := Op.call { callee := Callee.value (Operand.func 17), args := { toList := [] }, argTypes := { toList := [] } }, guard := none },
                  { dst := some 6, op := Op.assign (Operand.tmp 20), guard := none }]).seq
            IC.ret)
          IC.skip)).seq
    ((IC.ops
          [{ dst := some 22, op := Op.move (Operand.tmp 0), guard := none }, { dst := some 23, op := Op.move (Operand.tmp 1), guard := none },
            { dst := some 24, op := Op.move (Operand.tmp 2), guard := none },
            { dst := some 25, op := Op.call { callee := Callee.value (Operand.func 19), args := { toList := [Operand.tmp 22, Operand.tmp 23, Operand.tmp 24] }, argTypes := { toList := [23, 3, 3] } },
              guard := none },
            { dst := some 21, op := Op.move (Operand.tmp 25), guard := none }, { dst := some 26, op := Op.extract (Operand.tmp 21) 0, guard := none },
            { dst := some 27, op := Op.extract (Operand.tmp 21) 1, guard := none }, { dst := some 28, op := Op.extract (Operand.tmp 21) 2, guard := none },
            { dst := some 7, op := Op.assign (Operand.tmp 26), guard := none }, { dst := some 8, op := Op.assign (Operand.tmp 27), guard := none },
            { dst := some 9, op := Op.assign (Operand.tmp 28), guard := none }]).seq
      ((IC.ops
            [{ dst := some 30, op := Op.move (Operand.tmp 0), guard := none }, { dst := some 31, op := Op.move (Operand.tmp 1), guard := none },
              { dst := some 32, op := Op.move (Operand.tmp 2), guard := none },
              { dst := some 33, op := Op.call { callee := Callee.value (Operand.func 20), args := { toList := [Operand.tmp 30, Operand.tmp 31, Operand.tmp 32] }, argTypes := { toList := [3, 3, 3] } },
                guard := none },
              { dst := some 29, op := Op.move (Operand.tmp 33), guard := none }, { dst := some 34, op := Op.extract (Operand.tmp 29) 0, guard := none },
              { dst := some 35, op := Op.extract (Operand.tmp 29) 1, guard := none }, { dst := some 36, op := Op.extract (Operand.tmp 29) 2, guard := none },
              { dst := some 10, op := Op.assign (Operand.tmp 34), guard := none }, { dst := some 11, op := Op.assign (Operand.tmp 35), guard := none },
              { dst := some 12, op := Op.assign (Operand.tmp 36), guard := none }]).seq
        ((IC.ops
              [{ dst := some 37, op := Op.move (Operand.tmp 7), guard := none }, { dst := some 38, op := Op.move (Operand.tmp 10), guard := none },
                { dst := some 39, op := Op.binOp BinOp.eql 3 (Operand.tmp 37) (Operand.tmp 38) 3, guard := none }, { dst := some 40, op := Op.move (Operand.tmp 39), guard := none },
                { dst := some 41, op := Op.move (Operand.tmp 8), guard := some (some 40, true) }, { dst := some 42, op := Op.move (Operand.tmp 11), guard := some (some 40, true) },
                { dst := some 43, op := Op.binOp BinOp.eql 3 (Operand.tmp 41) (Operand.tmp 42) 3, guard := some (some 40, true) },
                { dst := some 44, op := Op.pick (Operand.tmp 40) (Operand.tmp 43) (Operand.const (Value.bool false)), guard := none },
                { dst := some 45, op := Op.move (Operand.tmp 44), guard := none }, { dst := some 46, op := Op.move (Operand.tmp 9), guard := some (some 45, true) },
                { dst := some 47, op := Op.move (Operand.tmp 12), guard := some (some 45, true) },
                { dst := some 48, op := Op.binOp BinOp.eql 4 (Operand.tmp 46) (Operand.tmp 47) 4, guard := some (some 45, true) },
                { dst := some 49, op := Op.pick (Operand.tmp 45) (Operand.tmp 48) (Operand.const (Value.bool false)), guard := none },
                { dst := some 50, op := Op.move (Operand.tmp 49), guard := none }, { dst := some 51, op := Op.move (Operand.tmp 0), guard := some (some 50, true) },
                { dst := some 52, op := Op.move (Operand.tmp 1), guard := some (some 50, true) }, { dst := some 53, op := Op.move (Operand.tmp 2), guard := some (some 50, true) },
                { dst := some 54,
                  op := Op.call { callee := Callee.value (Operand.func 22), args := { toList := [Operand.tmp 51, Operand.tmp 52, Operand.tmp 53] }, argTypes := { toList := [23, 3, 3] } },
                  guard := some (some 50, true) },
                { dst := some 55, op := Op.move (Operand.tmp 0), guard := some (some 50, true) }, { dst := some 56, op := Op.move (Operand.tmp 1), guard := some (some 50, true) },
                { dst := some 57, op := Op.move (Operand.tmp 2), guard := some (some 50, true) },
                { dst := some 58,
                  op := Op.call { callee := Callee.value (Operand.func 23), args := { toList := [Operand.tmp 55, Operand.tmp 56, Operand.tmp 57] }, argTypes := { toList := [3, 3, 3] } },
                  guard := some (some 50, true) },
                { dst := some 59, op := Op.call { callee := Callee.value (Operand.func 21), args := { toList := [Operand.tmp 54, Operand.tmp 58] }, argTypes := { toList := [24, 24] } },
                  guard := some (some 50, true) },
                { dst := some 60, op := Op.pick (Operand.tmp 50) (Operand.tmp 59) (Operand.const (Value.bool false)), guard := none },
                { dst := some 6, op := Op.assign (Operand.tmp 60), guard := none }]).seq
          IC.ret))))
theorem ic5_eq : Try.f5.body.map comp = some ic5 := by kernel_rfl
theorem ic5_ok : Try.f5.body.map (okC Try.f5.ntmps) = some true := by kernel_rfl
theorem ic5_nm : (Try.f5.name != "runtime.NumGoroutine") = true := by kernel_rfl
@[simp] theorem ic5_n : Try.f5.ntmps = 61 := by kernel_rfl
@[simp] theorem ic5_r : Try.f5.results.toList = [ResultVar.tmp 6] := by kernel_rfl

def ic6 : IC :=
  (IC.ops [{ dst := some 6, op := Op.assign (Operand.const (Value.bool false)), guard := none }]).seq
  (((IC.ops
            [{ dst := some 10, op := Op.call { callee := Callee.value (Operand.func 17), args := { toList := [] }, argTypes := { toList := [] } }, guard := none },
              { dst := some 11, op := Op.unOp UnOp.not 4 (Operand.tmp 10), guard := none }, { dst := some 12, op := Op.move (Operand.tmp 11), guard := none },
              { dst := some 13, op := Op.move (Operand.tmp 1), guard := some (some 12, false) },
              { dst := some 14, op := Op.call { callee := Callee.value (Operand.func 18), args := { toList := [Operand.tmp 13] }, argTypes := { toList := [3] } }, guard := some (some 12, false) },
              { dst := some 15, op := Op.unOp UnOp.not 4 (Operand.tmp 14), guard := some (some 12, false) },
              { dst := some 16, op := Op.pick (Operand.tmp 12) (Operand.const (Value.bool true)) (Operand.tmp 15), guard := none }]).seq
        (IC.cond (Operand.tmp 16)
          ((IC.ops
                [{ dst := some 17, op := Op.call { callee := Callee.value (Operand.func 17), args := { toList := [] }, argTypes := { toList := [] } }, guard := none },
                  { dst := some 6, op := Op.assign (Operand.tmp 17), guard := none }]).seq
            IC.ret)
          IC.skip)).seq
    ((IC.ops
          [{ dst := some 18, op := Op.move (Operand.tmp 0), guard := none }, { dst := some 19, op := Op.move (Operand.tmp 1), guard := none },
            { dst := some 20, op := Op.move (Operand.tmp 2), guard := none },
            { dst := some 21, op := Op.call { callee := Callee.value (Operand.func 22), args := { toList := [Operand.tmp 18, Operand.tmp 19, Operand.tmp 20] }, argTypes := { toList := [23, 3, 3] } },
              guard := none },
            { dst := some 7, op := Op.assign (Operand.tmp 21), guard := none }]).seq
      ((IC.ops [{ dst := some 8, op := Op.assign (Operand.const (Value.int IntKind.i64 (Int.ofNat 0))), guard := none }]).seq
        (((IC.ops
                  [{ dst := some 22, op := Op.move (Operand.tmp 7), guard := none },
                    { dst := some 23, op := Op.call { callee := Callee.builtin Builtin.len, args := { toList := [Operand.tmp 22] }, argTypes := { toList := [24] } }, guard := none },
                    { dst := some 24, op := Op.move (Operand.const (Value.int IntKind.i64 (Int.ofNat 0))), guard := none }]).seq
              (IC.block 0
                ((IC.ops [{ dst := some 25, op := Op.binOp BinOp.lss 3 (Operand.tmp 24) (Operand.tmp 23) 3, guard := none }]).seq
                    ((IC.cond (Operand.tmp 25) IC.skip (IC.exit 0)).seq
                      ((IC.block 1
                            ((IC.ops [{ dst := some 26, op := Op.move (Operand.tmp 24), guard := none }, { dst := some 9, op := Op.assign (Operand.tmp 26), guard := none }]).seq
                              (((IC.ops
                                        [{ dst := some 27, op := Op.move (Operand.tmp 7), guard := none }, { dst := some 28, op := Op.move (Operand.tmp 9), guard := none },
                                          { dst := some 29, op := Op.indexAddr 24 (Operand.tmp 27) (Operand.tmp 28), guard := none },
                                          { dst := some 30, op := Op.load 3 (Operand.tmp 29), guard := none },
                                          { dst := some 31, op := Op.binOp BinOp.lss 3 (Operand.tmp 30) (Operand.const (Value.int IntKind.i64 (Int.ofNat 0))) 3, guard := none },
                                          { dst := some 32, op := Op.move (Operand.tmp 31), guard := none }, { dst := some 33, op := Op.move (Operand.tmp 7), guard := some (some 32, false) },
                                          { dst := some 34, op := Op.move (Operand.tmp 9), guard := some (some 32, false) },
                                          { dst := some 35, op := Op.indexAddr 24 (Operand.tmp 33) (Operand.tmp 34), guard := some (some 32, false) },
                                          { dst := some 36, op := Op.load 3 (Operand.tmp 35), guard := some (some 32, false) },
                                          { dst := some 37, op := Op.binOp BinOp.gtr 3 (Operand.tmp 36) (Operand.const (Value.int IntKind.i64 (Int.ofNat 15))) 3, guard := some (some 32, false) },
                                          { dst := some 38, op := Op.pick (Operand.tmp 32) (Operand.const (Value.bool true)) (Operand.tmp 37), guard := none },
                                          { dst := some 39, op := Op.move (Operand.tmp 38), guard := none }, { dst := some 40, op := Op.move (Operand.tmp 8), guard := some (some 39, false) },
                                          { dst := some 41, op := Op.move (Operand.tmp 7), guard := some (some 39, false) },
                                          { dst := some 42, op := Op.move (Operand.tmp 9), guard := some (some 39, false) },
                                          { dst := some 43, op := Op.indexAddr 24 (Operand.tmp 41) (Operand.tmp 42), guard := some (some 39, false) },
                                          { dst := some 44, op := Op.load 3 (Operand.tmp 43), guard := some (some 39, false) },
                                          { dst := some 45, op := Op.binOp BinOp.shr 3 (Operand.tmp 40) (Operand.tmp 44) 3, guard := some (some 39, false) },
                                          { dst := some 46, op := Op.binOp BinOp.and 3 (Operand.tmp 45) (Operand.const (Value.int IntKind.i64 (Int.ofNat 1))) 3, guard := some (some 39, false) },
                                          { dst := some 47, op := Op.binOp BinOp.eql 3 (Operand.tmp 46) (Operand.const (Value.int IntKind.i64 (Int.ofNat 1))) 3, guard := some (some 39, false) },
                                          { dst := some 48, op := Op.pick (Operand.tmp 39) (Operand.const (Value.bool true)) (Operand.tmp 47), guard := none }]).seq
                                    (IC.cond (Operand.tmp 48) ((IC.ops [{ dst := some 6, op := Op.assign (Operand.const (Value.bool false)), guard := none }]).seq IC.ret) IC.skip)).seq
                                (IC.ops
                                  [{ dst := some 49, op := Op.move (Operand.tmp 8), guard := none }, { dst := some 50, op := Op.move (Operand.tmp 7), guard := none },
                                    { dst := some 51, op := Op.move (Operand.tmp 9), guard := none }, { dst := some 52, op := Op.indexAddr 24 (Operand.tmp 50) (Operand.tmp 51), guard := none },
                                    { dst := some 53, op := Op.load 3 (Operand.tmp 52), guard := none },
                                    { dst := some 54, op := Op.binOp BinOp.shl 3 (Operand.const (Value.int IntKind.i64 (Int.ofNat 1))) (Operand.tmp 53) 3, guard := none },
                                    { dst := some 55, op := Op.binOp BinOp.or 3 (Operand.tmp 49) (Operand.tmp 54) 3, guard := none },
                                    { dst := some 8, op := Op.assign (Operand.tmp 55), guard := none }])))).seq
                        (IC.ops
                          [{ dst := some 56, op := Op.binOp BinOp.add 3 (Operand.tmp 24) (Operand.const (Value.int IntKind.i64 (Int.ofNat 1))) 3, guard := none },
                            { dst := some 24, op := Op.move (Operand.tmp 56), guard := none }])))).loop)).seq
          ((IC.ops
                [{ dst := some 57, op := Op.move (Operand.tmp 8), guard := none }, { dst := some 58, op := Op.move (Operand.tmp 0), guard := none },
                  { dst := some 59, op := Op.call { callee := Callee.value (Operand.func 25), args := { toList := [Operand.tmp 58] }, argTypes := { toList := [3] } }, guard := none },
                  { dst := some 60, op := Op.call { callee := Callee.value (Operand.func 24), args := { toList := [Operand.tmp 59] }, argTypes := { toList := [24] } }, guard := none },
                  { dst := some 61, op := Op.binOp BinOp.eql 3 (Operand.tmp 57) (Operand.tmp 60) 3, guard := none }, { dst := some 6, op := Op.assign (Operand.tmp 61), guard := none }]).seq
            IC.ret)))))
theorem ic6_eq : Try.f6.body.map comp = some ic6 := by kernel_rfl
theorem ic6_ok : Try.f6.body.map (okC Try.f6.ntmps) = some true := by kernel_rfl
theorem ic6_nm : (Try.f6.name != "runtime.NumGoroutine") = true := by kernel_rfl
@[simp] theorem ic6_n : Try.f6.ntmps = 62 := by kernel_rfl
@[simp] theorem ic6_r : Try.f6.results.toList = [ResultVar.tmp 6] := by kernel_rfl

def ic7 : IC :=
  (IC.ops [{ dst := some 6, op := Op.assign (Operand.const (Value.bool false)), guard := none }]).seq
  (((IC.ops
            [{ dst := some 14, op := Op.call { callee := Callee.value (Operand.func 17), args := { toList := [] }, argTypes := { toList := [] } }, guard := none },
              { dst := some 15, op := Op.unOp UnOp.not 4 (Operand.tmp 14), guard := none }]).seq
        (IC.cond (Operand.tmp 15) ((IC.ops [{ dst := some 6, op := Op.assign (Operand.const (Value.bool false)), guard := none }]).seq IC.ret) IC.skip)).seq
    ((IC.ops
          [{ dst := some 16, op := Op.move (Operand.tmp 1), guard := none }, { dst := some 17, op := Op.convert 5 3 (Operand.tmp 16), guard := none },
            { dst := some 18, op := Op.binOp BinOp.rem 3 (Operand.tmp 17) (Operand.const (Value.int IntKind.i64 (Int.ofNat 16))) 3, guard := none },
            { dst := some 7, op := Op.assign (Operand.tmp 18), guard := none }]).seq
      ((IC.ops
            [{ dst := some 19, op := Op.move (Operand.tmp 0), guard := none }, { dst := some 20, op := Op.move (Operand.tmp 7), guard := none },
              { dst := some 21, op := Op.move (Operand.tmp 2), guard := none },
              { dst := some 22,
                op := Op.call { callee := Callee.value (Operand.func 22), args := { toList := [Operand.tmp 19, Operand.tmp 20, Operand.tmp 21] }, argTypes := { toList := [23, 3, 3] } },
                guard := none },
              { dst := some 8, op := Op.assign (Operand.tmp 22), guard := none }]).seq
        ((IC.ops [{ dst := some 9, op := Op.assign (Operand.const (Value.int IntKind.i64 (Int.ofNat 0))), guard := none }]).seq
          ((IC.ops [{ dst := some 10, op := Op.assign (Operand.const (Value.int IntKind.i64 (Int.ofNat 0))), guard := none }]).seq
            (((IC.ops
                      [{ dst := some 23, op := Op.move (Operand.tmp 2), guard := none },
                        { dst := some 24, op := Op.binOp BinOp.eql 3 (Operand.tmp 23) (Operand.const (Value.int IntKind.i64 (Int.ofNat 1))) 3, guard := none },
                        { dst := some 25, op := Op.move (Operand.tmp 24), guard := none }, { dst := some 26, op := Op.move (Operand.tmp 2), guard := some (some 25, false) },
                        { dst := some 27, op := Op.binOp BinOp.eql 3 (Operand.tmp 26) (Operand.const (Value.int IntKind.i64 (Int.negSucc 0))) 3, guard := some (some 25, false) },
                        { dst := some 28, op := Op.pick (Operand.tmp 25) (Operand.const (Value.bool true)) (Operand.tmp 27), guard := none }]).seq
                  (IC.cond (Operand.tmp 28) (IC.ops [{ dst := some 29, op := Op.move (Operand.tmp 2), guard := none }, { dst := some 10, op := Op.assign (Operand.tmp 29), guard := none }])
                    IC.skip)).seq
              (((IC.ops
                        [{ dst := some 30, op := Op.move (Operand.tmp 8), guard := none },
                          { dst := some 31, op := Op.call { callee := Callee.builtin Builtin.len, args := { toList := [Operand.tmp 30] }, argTypes := { toList := [24] } }, guard := none },
                          { dst := some 32, op := Op.move (Operand.const (Value.int IntKind.i64 (Int.ofNat 0))), guard := none }]).seq
                    (IC.block 0
                      ((IC.ops [{ dst := some 33, op := Op.binOp BinOp.lss 3 (Operand.tmp 32) (Operand.tmp 31) 3, guard := none }]).seq
                          ((IC.cond (Operand.tmp 33) IC.skip (IC.exit 0)).seq
                            ((IC.block 1
                                  ((IC.ops [{ dst := some 34, op := Op.move (Operand.tmp 32), guard := none }, { dst := some 11, op := Op.assign (Operand.tmp 34), guard := none }]).seq
                                    ((IC.ops [{ dst := some 35, op := Op.move (Operand.tmp 7), guard := none }, { dst := some 12, op := Op.assign (Operand.tmp 35), guard := none }]).seq
                                      (((IC.ops
                                                [{ dst := some 36, op := Op.move (Operand.tmp 11), guard := none },
                                                  { dst := some 37, op := Op.binOp BinOp.gtr 3 (Operand.tmp 36) (Operand.const (Value.int IntKind.i64 (Int.ofNat 0))) 3, guard := none }]).seq
                                            (IC.cond (Operand.tmp 37)
                                              (IC.ops
                                                [{ dst := some 38, op := Op.move (Operand.tmp 8), guard := none }, { dst := some 39, op := Op.move (Operand.tmp 11), guard := none },
                                                  { dst := some 40, op := Op.binOp BinOp.sub 3 (Operand.tmp 39) (Operand.const (Value.int IntKind.i64 (Int.ofNat 1))) 3, guard := none },
                                                  { dst := some 41, op := Op.indexAddr 24 (Operand.tmp 38) (Operand.tmp 40), guard := none },
                                                  { dst := some 42, op := Op.load 3 (Operand.tmp 41), guard := none }, { dst := some 12, op := Op.assign (Operand.tmp 42), guard := none }])
                                              IC.skip)).seq
                                        ((IC.ops [{ dst := some 13, op := Op.assign (Operand.const (Value.int IntKind.i64 (Int.ofNat 0))), guard := none }]).seq
                                          (((IC.ops
                                                    [{ dst := some 43, op := Op.move (Operand.tmp 8), guard := none }, { dst := some 44, op := Op.move (Operand.tmp 11), guard := none },
                                                      { dst := some 45, op := Op.indexAddr 24 (Operand.tmp 43) (Operand.tmp 44), guard := none },
                                                      { dst := some 46, op := Op.load 3 (Operand.tmp 45), guard := none }, { dst := some 47, op := Op.move (Operand.tmp 12), guard := none },
                                                      { dst := some 48, op := Op.binOp BinOp.gtr 3 (Operand.tmp 46) (Operand.tmp 47) 3, guard := none }]).seq
                                                (IC.cond (Operand.tmp 48) (IC.ops [{ dst := some 13, op := Op.assign (Operand.const (Value.int IntKind.i64 (Int.ofNat 1))), guard := none }])
                                                  IC.skip)).seq
                                            (((IC.ops
                                                      [{ dst := some 49, op := Op.move (Operand.tmp 8), guard := none }, { dst := some 50, op := Op.move (Operand.tmp 11), guard := none },
                                                        { dst := some 51, op := Op.indexAddr 24 (Operand.tmp 49) (Operand.tmp 50), guard := none },
                                                        { dst := some 52, op := Op.load 3 (Operand.tmp 51), guard := none }, { dst := some 53, op := Op.move (Operand.tmp 12), guard := none },
                                                        { dst := some 54, op := Op.binOp BinOp.lss 3 (Operand.tmp 52) (Operand.tmp 53) 3, guard := none }]).seq
                                                  (IC.cond (Operand.tmp 54) (IC.ops [{ dst := some 13, op := Op.assign (Operand.const (Value.int IntKind.i64 (Int.negSucc 0))), guard := none }])
                                                    IC.skip)).seq
                                              (((IC.ops
                                                        [{ dst := some 55, op := Op.move (Operand.tmp 13), guard := none },
                                                          { dst := some 56, op := Op.binOp BinOp.neq 3 (Operand.tmp 55) (Operand.const (Value.int IntKind.i64 (Int.ofNat 0))) 3, guard := none },
                                                          { dst := some 57, op := Op.move (Operand.tmp 56), guard := none },
                                                          { dst := some 58, op := Op.move (Operand.tmp 10), guard := some (some 57, true) },
                                                          { dst := some 59, op := Op.binOp BinOp.neq 3 (Operand.tmp 58) (Operand.const (Value.int IntKind.i64 (Int.ofNat 0))) 3,
                                                            guard := some (some 57, true) },
                                                          { dst := some 60, op := Op.pick (Operand.tmp 57) (Operand.tmp 59) (Operand.const (Value.bool false)), guard := none },
                                                          { dst := some 61, op := Op.move (Operand.tmp 60), guard := none },
                                                          { dst := some 62, op := Op.move (Operand.tmp 13), guard := some (some 61, true) },
                                                          { dst := some 63, op := Op.move (Operand.tmp 10), guard := some (some 61, true) },
                                                          { dst := some 64, op := Op.binOp BinOp.neq 3 (Operand.tmp 62) (Operand.tmp 63) 3, guard := some (some 61, true) },
                                                          { dst := some 65, op := Op.pick (Operand.tmp 61) (Operand.tmp 64) (Operand.const (Value.bool false)), guard := none }]).seq
                                                    (IC.cond (Operand.tmp 65)
                                                      (IC.ops
                                                        [{ dst := some 66, op := Op.move (Operand.tmp 9), guard := none },
                                                          { dst := some 67, op := Op.binOp BinOp.add 3 (Operand.tmp 66) (Operand.const (Value.int IntKind.i64 (Int.ofNat 1))) 3, guard := none },
                                                          { dst := some 9, op := Op.assign (Operand.tmp 67), guard := none }])
                                                      IC.skip)).seq
                                                ((IC.ops
                                                      [{ dst := some 68, op := Op.move (Operand.tmp 13), guard := none },
                                                        { dst := some 69, op := Op.binOp BinOp.neq 3 (Operand.tmp 68) (Operand.const (Value.int IntKind.i64 (Int.ofNat 0))) 3, guard := none }]).seq
                                                  (IC.cond (Operand.tmp 69)
                                                    (IC.ops [{ dst := some 70, op := Op.move (Operand.tmp 13), guard := none }, { dst := some 10, op := Op.assign (Operand.tmp 70), guard := none }])
                                                    IC.skip)))))))))).seq
                              (IC.ops
                                [{ dst := some 71, op := Op.binOp BinOp.add 3 (Operand.tmp 32) (Operand.const (Value.int IntKind.i64 (Int.ofNat 1))) 3, guard := none },
                                  { dst := some 32, op := Op.move (Operand.tmp 71), guard := none }])))).loop)).seq
                ((IC.ops
                      [{ dst := some 72, op := Op.move (Operand.tmp 9), guard := none },
                        { dst := some 73, op := Op.binOp BinOp.leq 3 (Operand.tmp 72) (Operand.const (Value.int IntKind.i64 (Int.ofNat 1))) 3, guard := none },
                        { dst := some 6, op := Op.assign (Operand.tmp 73), guard := none }]).seq
                  IC.ret))))))))
theorem ic7_eq : Try.f7.body.map comp = some ic7 := by kernel_rfl
theorem ic7_ok : Try.f7.body.map (okC Try.f7.ntmps) = some true := by kernel_rfl
theorem ic7_nm : (Try.f7.name != "runtime.NumGoroutine") = true := by kernel_rfl
@[simp] theorem ic7_n : Try.f7.ntmps = 74 := by kernel_rfl
@[simp] theorem ic7_r : Try.f7.results.toList = [ResultVar.tmp 6] := by kernel_rfl

def ic8 : IC :=
  (IC.ops [{ dst := some 6, op := Op.assign (Operand.const (Value.bool false)), guard := none }]).seq
  (((IC.ops
            [{ dst := some 12, op := Op.call { callee := Callee.value (Operand.func 17), args := { toList := [] }, argTypes := { toList := [] } }, guard := none },
              { dst := some 13, op := Op.unOp UnOp.not 4 (Operand.tmp 12), guard := none }, { dst := some 14, op := Op.move (Operand.tmp 13), guard := none },
              { dst := some 15, op := Op.move (Operand.tmp 1), guard := some (some 14, false) },
              { dst := some 16, op := Op.call { callee := Callee.value (Operand.func 18), args := { toList := [Operand.tmp 15] }, argTypes := { toList := [3] } }, guard := some (some 14, false) },
              { dst := some 17, op := Op.unOp UnOp.not 4 (Operand.tmp 16), guard := some (some 14, false) },
              { dst := some 18, op := Op.pick (Operand.tmp 14) (Operand.const (Value.bool true)) (Operand.tmp 17), guard := none }]).seq
        (IC.cond (Operand.tmp 18)
          ((IC.ops
                [{ dst := some 19, op := Op.call { callee := Callee.value (Operand.func 17), args := { toList := [] }, argTypes := { toList := [] } }, guard := none },
                  { dst := some 6, op := Op.assign (Operand.tmp 19), guard := none }]).seq
            IC.ret)
          IC.skip)).seq
    ((IC.ops [{ dst := some 20, op := Op.move (Operand.tmp 0), guard := none }, { dst := some 7, op := Op.assign (Operand.tmp 20), guard := none }]).seq
      ((IC.ops
            [{ dst := some 22, op := Op.move (Operand.tmp 7), guard := none }, { dst := some 23, op := Op.move (Operand.tmp 1), guard := none },
              { dst := some 24, op := Op.move (Operand.tmp 2), guard := none },
              { dst := some 25,
                op := Op.call { callee := Callee.value (Operand.func 19), args := { toList := [Operand.tmp 22, Operand.tmp 23, Operand.tmp 24] }, argTypes := { toList := [23, 3, 3] } },
                guard := none },
              { dst := some 21, op := Op.move (Operand.tmp 25), guard := none }, { dst := some 26, op := Op.extract (Operand.tmp 21) 0, guard := none },
              { dst := some 27, op := Op.extract (Operand.tmp 21) 1, guard := none }, { dst := some 28, op := Op.extract (Operand.tmp 21) 2, guard := none },
              { dst := some 8, op := Op.assign (Operand.tmp 26), guard := none }, { dst := some 9, op := Op.assign (Operand.tmp 27), guard := none },
              { dst := some 10, op := Op.assign (Operand.tmp 28), guard := none }]).seq
        ((IC.ops
              [{ dst := some 29, op := Op.move (Operand.tmp 7), guard := none }, { dst := some 30, op := Op.move (Operand.tmp 1), guard := none },
                { dst := some 31, op := Op.move (Operand.tmp 2), guard := none },
                { dst := some 32,
                  op := Op.call { callee := Callee.value (Operand.func 22), args := { toList := [Operand.tmp 29, Operand.tmp 30, Operand.tmp 31] }, argTypes := { toList := [23, 3, 3] } },
                  guard := none },
                { dst := some 11, op := Op.assign (Operand.tmp 32), guard := none }]).seq
          (((IC.ops [{ dst := some 33, op := Op.move (Operand.tmp 10), guard := none }, { dst := some 34, op := Op.unOp UnOp.not 4 (Operand.tmp 33), guard := none }]).seq
                (IC.cond (Operand.tmp 34)
                  ((IC.ops
                        [{ dst := some 35, op := Op.move (Operand.tmp 11), guard := none },
                          { dst := some 36, op := Op.call { callee := Callee.builtin Builtin.len, args := { toList := [Operand.tmp 35] }, argTypes := { toList := [24] } }, guard := none },
                          { dst := some 37, op := Op.binOp BinOp.eql 3 (Operand.tmp 36) (Operand.const (Value.int IntKind.i64 (Int.ofNat 0))) 3, guard := none },
                          { dst := some 38, op := Op.move (Operand.tmp 37), guard := none }, { dst := some 39, op := Op.move (Operand.tmp 7), guard := some (some 38, true) },
                          { dst := some 40, op := Op.call { callee := Callee.value (Operand.func 12), args := { toList := [Operand.tmp 39] }, argTypes := { toList := [23] } },
                            guard := some (some 38, true) },
                          { dst := some 41, op := Op.call { callee := Callee.builtin Builtin.len, args := { toList := [Operand.tmp 40] }, argTypes := { toList := [24] } },
                            guard := some (some 38, true) },
                          { dst := some 42, op := Op.binOp BinOp.eql 3 (Operand.tmp 41) (Operand.const (Value.int IntKind.i64 (Int.ofNat 0))) 3, guard := some (some 38, true) },
                          { dst := some 43, op := Op.pick (Operand.tmp 38) (Operand.tmp 42) (Operand.const (Value.bool false)), guard := none },
                          { dst := some 6, op := Op.assign (Operand.tmp 43), guard := none }]).seq
                    IC.ret)
                  IC.skip)).seq
            ((IC.opsD
                  [{ dst := some 44, op := Op.move (Operand.tmp 11), guard := none },
                    { dst := some 45, op := Op.call { callee := Callee.builtin Builtin.len, args := { toList := [Operand.tmp 44] }, argTypes := { toList := [24] } }, guard := none, bef := [0] },
                    { dst := some 46, op := Op.binOp BinOp.gtr 3 (Operand.tmp 45) (Operand.const (Value.int IntKind.i64 (Int.ofNat 0))) 3, guard := none, bef := [1, 0] },
                    { dst := some 47, op := Op.move (Operand.tmp 46), guard := none, bef := [2, 1, 0] },
                    { dst := some 48, op := Op.move (Operand.tmp 11), guard := some (some 47, true), bef := [3, 2, 1, 0] },
                    { dst := some 49, op := Op.indexAddr 24 (Operand.tmp 48) (Operand.const (Value.int IntKind.i64 (Int.ofNat 0))), guard := some (some 47, true), bef := [4, 3, 2, 1, 0] },
                    { dst := some 50, op := Op.load 3 (Operand.tmp 49), guard := some (some 47, true), bef := [5, 4, 3, 2, 1, 0] },
                    { dst := some 51, op := Op.move (Operand.tmp 8), guard := some (some 47, true), bef := [3, 2, 1, 0] },
                    { dst := some 52, op := Op.binOp BinOp.eql 3 (Operand.tmp 50) (Operand.tmp 51) 3, guard := some (some 47, true), bef := [6, 5, 4, 3, 2, 1, 0, 7] },
                    { dst := some 53, op := Op.pick (Operand.tmp 47) (Operand.tmp 52) (Operand.const (Value.bool false)), guard := none, bef := [3, 2, 1, 0, 8, 6, 5, 4, 7] },
                    { dst := some 54, op := Op.move (Operand.tmp 53), guard := none, bef := [9, 3, 2, 1, 0, 8, 6, 5, 4, 7] },
                    { dst := some 55, op := Op.move (Operand.tmp 11), guard := some (some 54, true), bef := [10, 9, 3, 2, 1, 0, 8, 6, 5, 4, 7] },
                    { dst := some 56, op := Op.slice 24 (Operand.tmp 55) (some (Operand.const (Value.int IntKind.i64 (Int.ofNat 1)))) none none, guard := some (some 54, true),
                      bef := [11, 10, 9, 3, 2, 1, 0, 8, 6, 5, 4, 7] },
                    { dst := some 57, op := Op.move (Operand.tmp 7), guard := some (some 54, true), bef := [10, 9, 3, 2, 1, 0, 8, 6, 5, 4, 7] },
                    { dst := some 58, op := Op.move (Operand.tmp 8), guard := some (some 54, true), bef := [10, 9, 3, 2, 1, 0, 8, 6, 5, 4, 7] },
                    { dst := some 59, op := Op.call { callee := Callee.value (Operand.func 16), args := { toList := [Operand.tmp 57, Operand.tmp 58] }, argTypes := { toList := [23, 3] } },
                      guard := some (some 54, true), bef := [13, 10, 9, 3, 2, 1, 0, 8, 6, 5, 4, 7, 14] },
                    { dst := some 60, op := Op.move (Operand.tmp 8), guard := some (some 54, true), bef := [10, 9, 3, 2, 1, 0, 8, 6, 5, 4, 7] },
                    { dst := some 61, op := Op.move (Operand.tmp 9), guard := some (some 54, true), bef := [10, 9, 3, 2, 1, 0, 8, 6, 5, 4, 7] },
                    { dst := some 62,
                      op := Op.call { callee := Callee.value (Operand.func 22), args := { toList := [Operand.tmp 59, Operand.tmp 60, Operand.tmp 61] }, argTypes := { toList := [23, 3, 3] } },
                      guard := some (some 54, true), bef := [15, 13, 10, 9, 3, 2, 1, 0, 8, 6, 5, 4, 7, 14, 16, 17] },
                    { dst := some 63, op := Op.call { callee := Callee.value (Operand.func 21), args := { toList := [Operand.tmp 56, Operand.tmp 62] }, argTypes := { toList := [24, 24] } },
                      guard := some (some 54, true), bef := [12, 11, 10, 9, 3, 2, 1, 0, 8, 6, 5, 4, 7, 18, 15, 13, 14, 16, 17] },
                    { dst := some 64, op := Op.pick (Operand.tmp 54) (Operand.tmp 63) (Operand.const (Value.bool false)), guard := none,
                      bef := [10, 9, 3, 2, 1, 0, 8, 6, 5, 4, 7, 19, 12, 11, 18, 15, 13, 14, 16, 17] },
                    { dst := some 6, op := Op.assign (Operand.tmp 64), guard := none, bef := [20, 10, 9, 3, 2, 1, 0, 8, 6, 5, 4, 7, 19, 12, 11, 18, 15, 13, 14, 16, 17] }]).seq
              IC.ret))))))
theorem ic8_eq : Try.f8.body.map comp = some ic8 := by kernel_rfl
theorem ic8_ok : Try.f8.body.map (okC Try.f8.ntmps) = some true := by kernel_rfl
theorem ic8_nm : (Try.f8.name != "runtime.NumGoroutine") = true := by kernel_rfl
@[simp] theorem ic8_n : Try.f8.ntmps = 65 := by kernel_rfl
@[simp] theorem ic8_r : Try.f8.results.toList = [ResultVar.tmp 6] := by kernel_rfl

def ic9 : IC :=
  (IC.ops [{ dst := some 6, op := Op.assign (Operand.const (Value.bool false)), guard := none }]).seq
  (((IC.ops
            [{ dst := some 14, op := Op.call { callee := Callee.value (Operand.func 17), args := { toList := [] }, argTypes := { toList := [] } }, guard := none },
              { dst := some 15, op := Op.unOp UnOp.not 4 (Operand.tmp 14), guard := none }]).seq
        (IC.cond (Operand.tmp 15) ((IC.ops [{ dst := some 6, op := Op.assign (Operand.const (Value.bool false)), guard := none }]).seq IC.ret) IC.skip)).seq
    ((IC.ops
          [{ dst := some 16, op := Op.move (Operand.tmp 1), guard := none }, { dst := some 17, op := Op.convert 5 3 (Operand.tmp 16), guard := none },
            { dst := some 18, op := Op.binOp BinOp.rem 3 (Operand.tmp 17) (Operand.const (Value.int IntKind.i64 (Int.ofNat 16))) 3, guard := none },
            { dst := some 7, op := Op.assign (Operand.tmp 18), guard := none }]).seq
      ((IC.ops [{ dst := some 19, op := Op.move (Operand.tmp 0), guard := none }, { dst := some 8, op := Op.assign (Operand.tmp 19), guard := none }]).seq
        ((IC.ops
              [{ dst := some 21, op := Op.move (Operand.tmp 8), guard := none }, { dst := some 22, op := Op.move (Operand.tmp 7), guard := none },
                { dst := some 23, op := Op.move (Operand.tmp 2), guard := none },
                { dst := some 24,
                  op := Op.call { callee := Callee.value (Operand.func 19), args := { toList := [Operand.tmp 21, Operand.tmp 22, Operand.tmp 23] }, argTypes := { toList := [23, 3, 3] } },
                  guard := none },
                { dst := some 20, op := Op.move (Operand.tmp 24), guard := none }, { dst := some 25, op := Op.extract (Operand.tmp 20) 0, guard := none },
                { dst := some 26, op := Op.extract (Operand.tmp 20) 1, guard := none }, { dst := some 27, op := Op.extract (Operand.tmp 20) 2, guard := none },
                { dst := some 9, op := Op.assign (Operand.tmp 25), guard := none }, { dst := some 10, op := Op.assign (Operand.tmp 26), guard := none },
                { dst := some 11, op := Op.assign (Operand.tmp 27), guard := none }]).seq
          (((IC.ops [{ dst := some 28, op := Op.move (Operand.tmp 11), guard := none }, { dst := some 29, op := Op.unOp UnOp.not 4 (Operand.tmp 28), guard := none }]).seq
                (IC.cond (Operand.tmp 29)
                  ((IC.ops
                        [{ dst := some 30, op := Op.move (Operand.tmp 8), guard := none },
                          { dst := some 31, op := Op.call { callee := Callee.value (Operand.func 12), args := { toList := [Operand.tmp 30] }, argTypes := { toList := [23] } }, guard := none },
                          { dst := some 32, op := Op.call { callee := Callee.builtin Builtin.len, args := { toList := [Operand.tmp 31] }, argTypes := { toList := [24] } }, guard := none },
                          { dst := some 33, op := Op.binOp BinOp.eql 3 (Operand.tmp 32) (Operand.const (Value.int IntKind.i64 (Int.ofNat 0))) 3, guard := none },
                          { dst := some 34, op := Op.move (Operand.tmp 33), guard := none }, { dst := some 35, op := Op.move (Operand.tmp 9), guard := some (some 34, true) },
                          { dst := some 36, op := Op.binOp BinOp.eql 3 (Operand.tmp 35) (Operand.const (Value.int IntKind.i64 (Int.ofNat 0))) 3, guard := some (some 34, true) },
                          { dst := some 37, op := Op.pick (Operand.tmp 34) (Operand.tmp 36) (Operand.const (Value.bool false)), guard := none },
                          { dst := some 38, op := Op.move (Operand.tmp 37), guard := none }, { dst := some 39, op := Op.move (Operand.tmp 10), guard := some (some 38, true) },
                          { dst := some 40, op := Op.binOp BinOp.eql 3 (Operand.tmp 39) (Operand.const (Value.int IntKind.i64 (Int.ofNat 0))) 3, guard := some (some 38, true) },
                          { dst := some 41, op := Op.pick (Operand.tmp 38) (Operand.tmp 40) (Operand.const (Value.bool false)), guard := none },
                          { dst := some 6, op := Op.assign (Operand.tmp 41), guard := none }]).seq
                    IC.ret)
                  IC.skip)).seq
            (((IC.ops
                      [{ dst := some 42, op := Op.move (Operand.tmp 8), guard := none },
                        { dst := some 43, op := Op.call { callee := Callee.value (Operand.func 12), args := { toList := [Operand.tmp 42] }, argTypes := { toList := [23] } }, guard := none },
                        { dst := some 44, op := Op.call { callee := Callee.builtin Builtin.len, args := { toList := [Operand.tmp 43] }, argTypes := { toList := [24] } }, guard := none },
                        { dst := some 45, op := Op.move (Operand.const (Value.int IntKind.i64 (Int.ofNat 0))), guard := none }]).seq
                  (IC.block 0
                    ((IC.ops [{ dst := some 46, op := Op.binOp BinOp.lss 3 (Operand.tmp 45) (Operand.tmp 44) 3, guard := none }]).seq
                        ((IC.cond (Operand.tmp 46) IC.skip (IC.exit 0)).seq
                          ((IC.block 1
                                ((IC.ops
                                      [{ dst := some 47, op := Op.indexAddr 24 (Operand.tmp 43) (Operand.tmp 45), guard := none }, { dst := some 48, op := Op.load 3 (Operand.tmp 47), guard := none },
                                        { dst := some 13, op := Op.assign (Operand.tmp 48), guard := none }]).seq
                                  (((IC.ops
                                            [{ dst := some 49, op := Op.move (Operand.tmp 13), guard := none }, { dst := some 50, op := Op.move (Operand.tmp 7), guard := none },
                                              { dst := some 51, op := Op.move (Operand.tmp 9), guard := none },
                                              { dst := some 52,
                                                op := Op.call { callee := Callee.builtin Builtin.min, args := { toList := [Operand.tmp 50, Operand.tmp 51] }, argTypes := { toList := [3, 3] } },
                                                guard := none },
                                              { dst := some 53, op := Op.binOp BinOp.gtr 3 (Operand.tmp 49) (Operand.tmp 52) 3, guard := none },
                                              { dst := some 54, op := Op.move (Operand.tmp 53), guard := none }, { dst := some 55, op := Op.move (Operand.tmp 13), guard := some (some 54, true) },
                                              { dst := some 56, op := Op.move (Operand.tmp 7), guard := some (some 54, true) },
                                              { dst := some 57, op := Op.move (Operand.tmp 9), guard := some (some 54, true) },
                                              { dst := some 58,
                                                op := Op.call { callee := Callee.builtin Builtin.max, args := { toList := [Operand.tmp 56, Operand.tmp 57] }, argTypes := { toList := [3, 3] } },
                                                guard := some (some 54, true) },
                                              { dst := some 59, op := Op.binOp BinOp.lss 3 (Operand.tmp 55) (Operand.tmp 58) 3, guard := some (some 54, true) },
                                              { dst := some 60, op := Op.pick (Operand.tmp 54) (Operand.tmp 59) (Operand.const (Value.bool false)), guard := none },
                                              { dst := some 61, op := Op.move (Operand.tmp 60), guard := none }, { dst := some 62, op := Op.move (Operand.tmp 13), guard := some (some 61, false) },
                                              { dst := some 63, op := Op.move (Operand.tmp 7), guard := some (some 61, false) },
                                              { dst := some 64, op := Op.binOp BinOp.eql 3 (Operand.tmp 62) (Operand.tmp 63) 3, guard := some (some 61, false) },
                                              { dst := some 65, op := Op.move (Operand.tmp 64), guard := some (some 61, false) },
                                              { dst := some 66, op := Op.move (Operand.tmp 9), guard := some (some 65, true) },
                                              { dst := some 67, op := Op.move (Operand.tmp 7), guard := some (some 65, true) },
                                              { dst := some 68, op := Op.binOp BinOp.neq 3 (Operand.tmp 66) (Operand.tmp 67) 3, guard := some (some 65, true) },
                                              { dst := some 69, op := Op.pick (Operand.tmp 65) (Operand.tmp 68) (Operand.const (Value.bool false)), guard := some (some 61, false) },
                                              { dst := some 70, op := Op.pick (Operand.tmp 61) (Operand.const (Value.bool true)) (Operand.tmp 69), guard := none }]).seq
                                        (IC.cond (Operand.tmp 70) ((IC.ops [{ dst := some 6, op := Op.assign (Operand.const (Value.bool false)), guard := none }]).seq IC.ret) IC.skip)).seq
                                    ((IC.ops
                                          [{ dst := some 71, op := Op.move (Operand.tmp 2), guard := none },
                                            { dst := some 72, op := Op.binOp BinOp.neq 3 (Operand.tmp 71) (Operand.const (Value.int IntKind.i64 (Int.ofNat 1))) 3, guard := none },
                                            { dst := some 73, op := Op.move (Operand.tmp 72), guard := none }, { dst := some 74, op := Op.move (Operand.tmp 2), guard := some (some 73, true) },
                                            { dst := some 75, op := Op.binOp BinOp.neq 3 (Operand.tmp 74) (Operand.const (Value.int IntKind.i64 (Int.negSucc 0))) 3, guard := some (some 73, true) },
                                            { dst := some 76, op := Op.pick (Operand.tmp 73) (Operand.tmp 75) (Operand.const (Value.bool false)), guard := none },
                                            { dst := some 77, op := Op.move (Operand.tmp 76), guard := none }, { dst := some 78, op := Op.move (Operand.tmp 13), guard := some (some 77, true) },
                                            { dst := some 79, op := Op.move (Operand.tmp 7), guard := some (some 77, true) },
                                            { dst := some 80, op := Op.binOp BinOp.sub 3 (Operand.tmp 78) (Operand.tmp 79) 3, guard := some (some 77, true) },
                                            { dst := some 81, op := Op.move (Operand.tmp 7), guard := some (some 77, true) },
                                            { dst := some 82, op := Op.move (Operand.tmp 13), guard := some (some 77, true) },
                                            { dst := some 83, op := Op.binOp BinOp.sub 3 (Operand.tmp 81) (Operand.tmp 82) 3, guard := some (some 77, true) },
                                            { dst := some 84,
                                              op := Op.call { callee := Callee.builtin Builtin.max, args := { toList := [Operand.tmp 80, Operand.tmp 83] }, argTypes := { toList := [3, 3] } },
                                              guard := some (some 77, true) },
                                            { dst := some 85, op := Op.move (Operand.tmp 9), guard := some (some 77, true) },
                                            { dst := some 86, op := Op.move (Operand.tmp 7), guard := some (some 77, true) },
                                            { dst := some 87, op := Op.binOp BinOp.sub 3 (Operand.tmp 85) (Operand.tmp 86) 3, guard := some (some 77, true) },
                                            { dst := some 88, op := Op.move (Operand.tmp 7), guard := some (some 77, true) },
                                            { dst := some 89, op := Op.move (Operand.tmp 9), guard := some (some 77, true) },
                                            { dst := some 90, op := Op.binOp BinOp.sub 3 (Operand.tmp 88) (Operand.tmp 89) 3, guard := some (some 77, true) },
                                            { dst := some 91,
                                              op := Op.call { callee := Callee.builtin Builtin.max, args := { toList := [Operand.tmp 87, Operand.tmp 90] }, argTypes := { toList := [3, 3] } },
                                              guard := some (some 77, true) },
                                            { dst := some 92, op := Op.binOp BinOp.lss 3 (Operand.tmp 84) (Operand.tmp 91) 3, guard := some (some 77, true) },
                                            { dst := some 93, op := Op.pick (Operand.tmp 77) (Operand.tmp 92) (Operand.const (Value.bool false)), guard := none }]).seq
                                      (IC.cond (Operand.tmp 93) ((IC.ops [{ dst := some 6, op := Op.assign (Operand.const (Value.bool false)), guard := none }]).seq IC.ret) IC.skip))))).seq
                            (IC.ops
                              [{ dst := some 94, op := Op.binOp BinOp.add 3 (Operand.tmp 45) (Operand.const (Value.int IntKind.i64 (Int.ofNat 1))) 3, guard := none },
                                { dst := some 45, op := Op.move (Operand.tmp 94), guard := none }])))).loop)).seq
              ((IC.ops
                    [{ dst := some 95, op := Op.move (Operand.tmp 8), guard := none }, { dst := some 96, op := Op.move (Operand.tmp 9), guard := none },
                      { dst := some 97, op := Op.call { callee := Callee.value (Operand.func 13), args := { toList := [Operand.tmp 95, Operand.tmp 96] }, argTypes := { toList := [23, 3] } },
                        guard := none },
                      { dst := some 98, op := Op.move (Operand.tmp 97), guard := none }, { dst := some 99, op := Op.move (Operand.tmp 9), guard := some (some 98, true) },
                      { dst := some 100, op := Op.move (Operand.tmp 7), guard := some (some 98, true) },
                      { dst := some 101, op := Op.binOp BinOp.eql 3 (Operand.tmp 99) (Operand.tmp 100) 3, guard := some (some 98, true) },
                      { dst := some 102, op := Op.move (Operand.tmp 101), guard := some (some 98, true) }, { dst := some 103, op := Op.move (Operand.tmp 10), guard := some (some 102, false) },
                      { dst := some 104, op := Op.binOp BinOp.eql 3 (Operand.tmp 103) (Operand.const (Value.int IntKind.i64 (Int.ofNat 1))) 3, guard := some (some 102, false) },
                      { dst := some 105, op := Op.move (Operand.tmp 104), guard := some (some 102, false) }, { dst := some 106, op := Op.move (Operand.tmp 9), guard := some (some 105, true) },
                      { dst := some 107, op := Op.move (Operand.tmp 7), guard := some (some 105, true) },
                      { dst := some 108, op := Op.binOp BinOp.gtr 3 (Operand.tmp 106) (Operand.tmp 107) 3, guard := some (some 105, true) },
                      { dst := some 109, op := Op.pick (Operand.tmp 105) (Operand.tmp 108) (Operand.const (Value.bool false)), guard := some (some 102, false) },
                      { dst := some 110, op := Op.pick (Operand.tmp 102) (Operand.const (Value.bool true)) (Operand.tmp 109), guard := some (some 98, true) },
                      { dst := some 111, op := Op.move (Operand.tmp 110), guard := some (some 98, true) }, { dst := some 112, op := Op.move (Operand.tmp 10), guard := some (some 111, false) },
                      { dst := some 113, op := Op.binOp BinOp.eql 3 (Operand.tmp 112) (Operand.const (Value.int IntKind.i64 (Int.negSucc 0))) 3, guard := some (some 111, false) },
                      { dst := some 114, op := Op.move (Operand.tmp 113), guard := some (some 111, false) }, { dst := some 115, op := Op.move (Operand.tmp 9), guard := some (some 114, true) },
                      { dst := some 116, op := Op.move (Operand.tmp 7), guard := some (some 114, true) },
                      { dst := some 117, op := Op.binOp BinOp.lss 3 (Operand.tmp 115) (Operand.tmp 116) 3, guard := some (some 114, true) },
                      { dst := some 118, op := Op.pick (Operand.tmp 114) (Operand.tmp 117) (Operand.const (Value.bool false)), guard := some (some 111, false) },
                      { dst := some 119, op := Op.pick (Operand.tmp 111) (Operand.const (Value.bool true)) (Operand.tmp 118), guard := some (some 98, true) },
                      { dst := some 120, op := Op.pick (Operand.tmp 98) (Operand.tmp 119) (Operand.const (Value.bool false)), guard := none },
                      { dst := some 121, op := Op.move (Operand.tmp 120), guard := none }, { dst := some 122, op := Op.move (Operand.tmp 2), guard := some (some 121, true) },
                      { dst := some 123, op := Op.binOp BinOp.neq 3 (Operand.tmp 122) (Operand.const (Value.int IntKind.i64 (Int.ofNat 1))) 3, guard := some (some 121, true) },
                      { dst := some 124, op := Op.move (Operand.tmp 123), guard := some (some 121, true) }, { dst := some 125, op := Op.move (Operand.tmp 10), guard := some (some 124, false) },
                      { dst := some 126, op := Op.binOp BinOp.eql 3 (Operand.tmp 125) (Operand.const (Value.int IntKind.i64 (Int.ofNat 1))) 3, guard := some (some 124, false) },
                      { dst := some 127, op := Op.pick (Operand.tmp 124) (Operand.const (Value.bool true)) (Operand.tmp 126), guard := some (some 121, true) },
                      { dst := some 128, op := Op.move (Operand.tmp 127), guard := some (some 121, true) }, { dst := some 129, op := Op.move (Operand.tmp 9), guard := some (some 128, false) },
                      { dst := some 130, op := Op.move (Operand.tmp 7), guard := some (some 128, false) },
                      { dst := some 131, op := Op.binOp BinOp.eql 3 (Operand.tmp 129) (Operand.tmp 130) 3, guard := some (some 128, false) },
                      { dst := some 132, op := Op.pick (Operand.tmp 128) (Operand.const (Value.bool true)) (Operand.tmp 131), guard := some (some 121, true) },
                      { dst := some 133, op := Op.move (Operand.tmp 132), guard := some (some 121, true) }, { dst := some 134, op := Op.move (Operand.tmp 8), guard := some (some 133, false) },
                      { dst := some 135, op := Op.move (Operand.tmp 7), guard := some (some 133, false) },
                      { dst := some 136, op := Op.call { callee := Callee.value (Operand.func 14), args := { toList := [Operand.tmp 134, Operand.tmp 135] }, argTypes := { toList := [23, 3] } },
                        guard := some (some 133, false) },
                      { dst := some 137, op := Op.unOp UnOp.not 4 (Operand.tmp 136), guard := some (some 133, false) },
                      { dst := some 138, op := Op.pick (Operand.tmp 133) (Operand.const (Value.bool true)) (Operand.tmp 137), guard := some (some 121, true) },
                      { dst := some 139, op := Op.pick (Operand.tmp 121) (Operand.tmp 138) (Operand.const (Value.bool false)), guard := none },
                      { dst := some 140, op := Op.move (Operand.tmp 139), guard := none }, { dst := some 141, op := Op.move (Operand.tmp 2), guard := some (some 140, true) },
                      { dst := some 142, op := Op.binOp BinOp.neq 3 (Operand.tmp 141) (Operand.const (Value.int IntKind.i64 (Int.negSucc 0))) 3, guard := some (some 140, true) },
                      { dst := some 143, op := Op.move (Operand.tmp 142), guard := some (some 140, true) }, { dst := some 144, op := Op.move (Operand.tmp 10), guard := some (some 143, false) },
                      { dst := some 145, op := Op.binOp BinOp.eql 3 (Operand.tmp 144) (Operand.const (Value.int IntKind.i64 (Int.negSucc 0))) 3, guard := some (some 143, false) },
                      { dst := some 146, op := Op.pick (Operand.tmp 143) (Operand.const (Value.bool true)) (Operand.tmp 145), guard := some (some 140, true) },
                      { dst := some 147, op := Op.move (Operand.tmp 146), guard := some (some 140, true) }, { dst := some 148, op := Op.move (Operand.tmp 9), guard := some (some 147, false) },
                      { dst := some 149, op := Op.move (Operand.tmp 7), guard := some (some 147, false) },
                      { dst := some 150, op := Op.binOp BinOp.eql 3 (Operand.tmp 148) (Operand.tmp 149) 3, guard := some (some 147, false) },
                      { dst := some 151, op := Op.pick (Operand.tmp 147) (Operand.const (Value.bool true)) (Operand.tmp 150), guard := some (some 140, true) },
                      { dst := some 152, op := Op.move (Operand.tmp 151), guard := some (some 140, true) }, { dst := some 153, op := Op.move (Operand.tmp 8), guard := some (some 152, false) },
                      { dst := some 154, op := Op.move (Operand.tmp 7), guard := some (some 152, false) },
                      { dst := some 155, op := Op.call { callee := Callee.value (Operand.func 15), args := { toList := [Operand.tmp 153, Operand.tmp 154] }, argTypes := { toList := [23, 3] } },
                        guard := some (some 152, false) },
                      { dst := some 156, op := Op.unOp UnOp.not 4 (Operand.tmp 155), guard := some (some 152, false) },
                      { dst := some 157, op := Op.pick (Operand.tmp 152) (Operand.const (Value.bool true)) (Operand.tmp 156), guard := some (some 140, true) },
                      { dst := some 158, op := Op.pick (Operand.tmp 140) (Operand.tmp 157) (Operand.const (Value.bool false)), guard := none },
                      { dst := some 6, op := Op.assign (Operand.tmp 158), guard := none }]).seq
                IC.ret)))))))
theorem ic9_eq : Try.f9.body.map comp = some ic9 := by kernel_rfl
theorem ic9_ok : Try.f9.body.map (okC Try.f9.ntmps) = some true := by kernel_rfl
theorem ic9_nm : (Try.f9.name != "runtime.NumGoroutine") = true := by kernel_rfl
@[simp] theorem ic9_n : Try.f9.ntmps = 159 := by kernel_rfl
@[simp] theorem ic9_r : Try.f9.results.toList = [ResultVar.tmp 6] := by kernel_rfl

def ic10 : IC :=
  (IC.ops [{ dst := some 6, op := Op.assign (Operand.const (Value.bool false)), guard := none }]).seq
  (((IC.ops
            [{ dst := some 19, op := Op.call { callee := Callee.value (Operand.func 17), args := { toList := [] }, argTypes := { toList := [] } }, guard := none },
              { dst := some 20, op := Op.unOp UnOp.not 4 (Operand.tmp 19), guard := none }]).seq
        (IC.cond (Operand.tmp 20) ((IC.ops [{ dst := some 6, op := Op.assign (Operand.const (Value.bool false)), guard := none }]).seq IC.ret) IC.skip)).seq
    ((IC.ops
          [{ dst := some 21, op := Op.move (Operand.tmp 1), guard := none }, { dst := some 22, op := Op.convert 5 3 (Operand.tmp 21), guard := none },
            { dst := some 23, op := Op.binOp BinOp.rem 3 (Operand.tmp 22) (Operand.const (Value.int IntKind.i64 (Int.ofNat 16))) 3, guard := none },
            { dst := some 7, op := Op.assign (Operand.tmp 23), guard := none }]).seq
      ((IC.ops [{ dst := some 8, op := Op.assign (Operand.const (Value.int IntKind.i64 (Int.ofNat 0))), guard := none }]).seq
        (((IC.ops [{ dst := some 24, op := Op.move (Operand.const (Value.int IntKind.i64 (Int.ofNat 0))), guard := none }]).seq
              (IC.block 0
                ((IC.ops [{ dst := some 25, op := Op.binOp BinOp.lss 3 (Operand.tmp 24) (Operand.const (Value.int IntKind.i64 (Int.ofNat 16))) 3, guard := none }]).seq
                    ((IC.cond (Operand.tmp 25) IC.skip (IC.exit 0)).seq
                      ((IC.block 1
                            ((IC.ops [{ dst := some 26, op := Op.move (Operand.tmp 24), guard := none }, { dst := some 9, op := Op.assign (Operand.tmp 26), guard := none }]).seq
                              (IC.ops
                                [{ dst := some 27, op := Op.move (Operand.tmp 8), guard := none }, { dst := some 28, op := Op.move (Operand.tmp 0), guard := none },
                                  { dst := some 29, op := Op.move (Operand.tmp 9), guard := none }, { dst := some 30, op := Op.binOp BinOp.shr 3 (Operand.tmp 28) (Operand.tmp 29) 3, guard := none },
                                  { dst := some 31, op := Op.binOp BinOp.and 3 (Operand.tmp 30) (Operand.const (Value.int IntKind.i64 (Int.ofNat 1))) 3, guard := none },
                                  { dst := some 32, op := Op.move (Operand.tmp 9), guard := none },
                                  { dst := some 33, op := Op.binOp BinOp.sub 3 (Operand.const (Value.int IntKind.i64 (Int.ofNat 15))) (Operand.tmp 32) 3, guard := none },
                                  { dst := some 34, op := Op.binOp BinOp.shl 3 (Operand.tmp 31) (Operand.tmp 33) 3, guard := none },
                                  { dst := some 35, op := Op.binOp BinOp.or 3 (Operand.tmp 27) (Operand.tmp 34) 3, guard := none },
                                  { dst := some 8, op := Op.assign (Operand.tmp 35), guard := none }]))).seq
                        (IC.ops
                          [{ dst := some 36, op := Op.binOp BinOp.add 3 (Operand.tmp 24) (Operand.const (Value.int IntKind.i64 (Int.ofNat 1))) 3, guard := none },
                            { dst := some 24, op := Op.move (Operand.tmp 36), guard := none }])))).loop)).seq
          ((IC.ops [{ dst := some 10, op := Op.assign (Operand.const (Value.int IntKind.i64 (Int.ofNat 0))), guard := none }]).seq
            (((IC.ops
                      [{ dst := some 37, op := Op.move (Operand.tmp 2), guard := none },
                        { dst := some 38, op := Op.binOp BinOp.eql 3 (Operand.tmp 37) (Operand.const (Value.int IntKind.i64 (Int.ofNat 1))) 3, guard := none },
                        { dst := some 39, op := Op.move (Operand.tmp 38), guard := none }, { dst := some 40, op := Op.move (Operand.tmp 2), guard := some (some 39, false) },
                        { dst := some 41, op := Op.binOp BinOp.eql 3 (Operand.tmp 40) (Operand.const (Value.int IntKind.i64 (Int.negSucc 0))) 3, guard := some (some 39, false) },
                        { dst := some 42, op := Op.pick (Operand.tmp 39) (Operand.const (Value.bool true)) (Operand.tmp 41), guard := none }]).seq
                  (IC.cond (Operand.tmp 42) (IC.ops [{ dst := some 43, op := Op.move (Operand.tmp 2), guard := none }, { dst := some 10, op := Op.assign (Operand.tmp 43), guard := none }])
                    IC.skip)).seq
              ((IC.ops
                    [{ dst := some 45, op := Op.move (Operand.tmp 0), guard := none }, { dst := some 46, op := Op.move (Operand.tmp 7), guard := none },
                      { dst := some 47, op := Op.move (Operand.tmp 10), guard := none },
                      { dst := some 48,
                        op := Op.call { callee := Callee.value (Operand.func 19), args := { toList := [Operand.tmp 45, Operand.tmp 46, Operand.tmp 47] }, argTypes := { toList := [23, 3, 3] } },
                        guard := none },
                      { dst := some 44, op := Op.move (Operand.tmp 48), guard := none }, { dst := some 49, op := Op.extract (Operand.tmp 44) 0, guard := none },
                      { dst := some 50, op := Op.extract (Operand.tmp 44) 1, guard := none }, { dst := some 51, op := Op.extract (Operand.tmp 44) 2, guard := none },
                      { dst := some 11, op := Op.assign (Operand.tmp 49), guard := none }, { dst := some 12, op := Op.assign (Operand.tmp 50), guard := none },
                      { dst := some 13, op := Op.assign (Operand.tmp 51), guard := none }]).seq
                ((IC.ops
                      [{ dst := some 53, op := Op.move (Operand.tmp 8), guard := none }, { dst := some 54, op := Op.move (Operand.tmp 7), guard := none },
                        { dst := some 55, op := Op.binOp BinOp.sub 3 (Operand.const (Value.int IntKind.i64 (Int.ofNat 15))) (Operand.tmp 54) 3, guard := none },
                        { dst := some 56, op := Op.move (Operand.tmp 10), guard := none }, { dst := some 57, op := Op.unOp UnOp.neg 3 (Operand.tmp 56), guard := none },
                        { dst := some 58,
                          op := Op.call { callee := Callee.value (Operand.func 19), args := { toList := [Operand.tmp 53, Operand.tmp 55, Operand.tmp 57] }, argTypes := { toList := [23, 3, 3] } },
                          guard := none },
                        { dst := some 52, op := Op.move (Operand.tmp 58), guard := none }, { dst := some 59, op := Op.extract (Operand.tmp 52) 0, guard := none },
                        { dst := some 60, op := Op.extract (Operand.tmp 52) 1, guard := none }, { dst := some 61, op := Op.extract (Operand.tmp 52) 2, guard := none },
                        { dst := some 14, op := Op.assign (Operand.tmp 59), guard := none }, { dst := some 15, op := Op.assign (Operand.tmp 60), guard := none },
                        { dst := some 16, op := Op.assign (Operand.tmp 61), guard := none }]).seq
                  (((IC.ops
                            [{ dst := some 62, op := Op.move (Operand.tmp 13), guard := none }, { dst := some 63, op := Op.unOp UnOp.not 4 (Operand.tmp 62), guard := none },
                              { dst := some 64, op := Op.move (Operand.tmp 63), guard := none }, { dst := some 65, op := Op.move (Operand.tmp 16), guard := some (some 64, false) },
                              { dst := some 66, op := Op.unOp UnOp.not 4 (Operand.tmp 65), guard := some (some 64, false) },
                              { dst := some 67, op := Op.pick (Operand.tmp 64) (Operand.const (Value.bool true)) (Operand.tmp 66), guard := none },
                              { dst := some 68, op := Op.move (Operand.tmp 67), guard := none }, { dst := some 69, op := Op.move (Operand.tmp 10), guard := some (some 68, false) },
                              { dst := some 70, op := Op.binOp BinOp.eql 3 (Operand.tmp 69) (Operand.const (Value.int IntKind.i64 (Int.ofNat 0))) 3, guard := some (some 68, false) },
                              { dst := some 71, op := Op.pick (Operand.tmp 68) (Operand.const (Value.bool true)) (Operand.tmp 70), guard := none }]).seq
                        (IC.cond (Operand.tmp 71)
                          ((IC.ops
                                [{ dst := some 72, op := Op.move (Operand.tmp 13), guard := none }, { dst := some 73, op := Op.move (Operand.tmp 16), guard := none },
                                  { dst := some 74, op := Op.binOp BinOp.eql 4 (Operand.tmp 72) (Operand.tmp 73) 4, guard := none },
                                  { dst := some 6, op := Op.assign (Operand.tmp 74), guard := none }]).seq
                            IC.ret)
                          IC.skip)).seq
                    ((IC.ops
                          [{ dst := some 75, op := Op.move (Operand.tmp 0), guard := none }, { dst := some 76, op := Op.move (Operand.tmp 7), guard := none },
                            { dst := some 77, op := Op.call { callee := Callee.value (Operand.func 14), args := { toList := [Operand.tmp 75, Operand.tmp 76] }, argTypes := { toList := [23, 3] } },
                              guard := none },
                            { dst := some 78, op := Op.move (Operand.tmp 0), guard := none }, { dst := some 79, op := Op.move (Operand.tmp 7), guard := none },
                            { dst := some 80, op := Op.call { callee := Callee.value (Operand.func 15), args := { toList := [Operand.tmp 78, Operand.tmp 79] }, argTypes := { toList := [23, 3] } },
                              guard := none },
                            { dst := some 17, op := Op.assign (Operand.tmp 77), guard := none }, { dst := some 18, op := Op.assign (Operand.tmp 80), guard := none }]).seq
                      ((IC.ops
                            [{ dst := some 81, op := Op.move (Operand.tmp 17), guard := none }, { dst := some 82, op := Op.move (Operand.tmp 81), guard := none },
                              { dst := some 83, op := Op.move (Operand.tmp 18), guard := some (some 82, true) },
                              { dst := some 84, op := Op.pick (Operand.tmp 82) (Operand.tmp 83) (Operand.const (Value.bool false)), guard := none },
                              { dst := some 85, op := Op.unOp UnOp.not 4 (Operand.tmp 84), guard := none }, { dst := some 86, op := Op.move (Operand.tmp 85), guard := none },
                              { dst := some 87, op := Op.move (Operand.tmp 10), guard := some (some 86, true) },
                              { dst := some 88, op := Op.binOp BinOp.eql 3 (Operand.tmp 87) (Operand.const (Value.int IntKind.i64 (Int.ofNat 1))) 3, guard := some (some 86, true) },
                              { dst := some 89, op := Op.move (Operand.tmp 17), guard := some (some 86, true) },
                              { dst := some 90, op := Op.binOp BinOp.neq 4 (Operand.tmp 88) (Operand.tmp 89) 4, guard := some (some 86, true) },
                              { dst := some 91, op := Op.pick (Operand.tmp 86) (Operand.tmp 90) (Operand.const (Value.bool false)), guard := none },
                              { dst := some 92, op := Op.move (Operand.tmp 91), guard := none }, { dst := some 93, op := Op.move (Operand.tmp 11), guard := some (some 92, true) },
                              { dst := some 94, op := Op.move (Operand.tmp 7), guard := some (some 92, true) },
                              { dst := some 95, op := Op.binOp BinOp.neq 3 (Operand.tmp 93) (Operand.tmp 94) 3, guard := some (some 92, true) },
                              { dst := some 96, op := Op.pick (Operand.tmp 92) (Operand.tmp 95) (Operand.const (Value.bool false)), guard := none },
                              { dst := some 97, op := Op.move (Operand.tmp 96), guard := none }, { dst := some 98, op := Op.move (Operand.tmp 11), guard := some (some 97, false) },
                              { dst := some 99, op := Op.move (Operand.tmp 14), guard := some (some 97, false) },
                              { dst := some 100, op := Op.binOp BinOp.sub 3 (Operand.const (Value.int IntKind.i64 (Int.ofNat 15))) (Operand.tmp 99) 3, guard := some (some 97, false) },
                              { dst := some 101, op := Op.binOp BinOp.eql 3 (Operand.tmp 98) (Operand.tmp 100) 3, guard := some (some 97, false) },
                              { dst := some 102, op := Op.move (Operand.tmp 101), guard := some (some 97, false) }, { dst := some 103, op := Op.move (Operand.tmp 12), guard := some (some 102, true) },
                              { dst := some 104, op := Op.move (Operand.tmp 15), guard := some (some 102, true) },
                              { dst := some 105, op := Op.unOp UnOp.neg 3 (Operand.tmp 104), guard := some (some 102, true) },
                              { dst := some 106, op := Op.binOp BinOp.eql 3 (Operand.tmp 103) (Operand.tmp 105) 3, guard := some (some 102, true) },
                              { dst := some 107, op := Op.pick (Operand.tmp 102) (Operand.tmp 106) (Operand.const (Value.bool false)), guard := some (some 97, false) },
                              { dst := some 108, op := Op.pick (Operand.tmp 97) (Operand.const (Value.bool true)) (Operand.tmp 107), guard := none },
                              { dst := some 6, op := Op.assign (Operand.tmp 108), guard := none }]).seq
                        IC.ret)))))))))))
theorem ic10_eq : Try.f10.body.map comp = some ic10 := by kernel_rfl
theorem ic10_ok : Try.f10.body.map (okC Try.f10.ntmps) = some true := by kernel_rfl
theorem ic10_nm : (Try.f10.name != "runtime.NumGoroutine") = true := by kernel_rfl
@[simp] theorem ic10_n : Try.f10.ntmps = 109 := by kernel_rfl
@[simp] theorem ic10_r : Try.f10.results.toList = [ResultVar.tmp 6] := by kernel_rfl

def ic11 : IC :=
  (IC.ops [{ dst := some 0, op := Op.assign (Operand.const (Value.bool false)), guard := none }]).seq
  ((IC.ops
        [{ dst := some 3,
            op :=
              Op.buildSlice 24 3
                {
                  toList :=
                    [(0, Operand.const (Value.int IntKind.i64 (Int.ofNat 0))), (1, Operand.const (Value.int IntKind.i64 (Int.ofNat 9))), (2, Operand.const (Value.int IntKind.i64 (Int.ofNat 18)))] },
            guard := none },
          { dst := some 4, op := Op.build 42 { toList := [(0, Operand.tmp 3)] }, guard := none }, { dst := some 1, op := Op.alloc 42, guard := none },
          { dst := none, op := Op.store 42 (Operand.tmp 1) (Operand.tmp 4), guard := none }]).seq
    ((IC.ops
          [{ dst := some 5, op := Op.load 42 (Operand.tmp 1), guard := none },
            { dst := some 6,
              op :=
                Op.call
                  { callee := Callee.value (Operand.func 26),
                    args := { toList := [Operand.const (Value.int IntKind.i64 (Int.ofNat 0)), Operand.tmp 5, Operand.const (Value.int IntKind.i64 (Int.ofNat 13))] },
                    argTypes := { toList := [23, 42, 3] } },
              guard := none },
            { dst := some 2, op := Op.assign (Operand.tmp 6), guard := none }]).seq
      ((IC.ops
            [{ dst := some 7, op := Op.load 42 (Operand.tmp 1), guard := none },
              { dst := some 8, op := Op.call { callee := Callee.value (Operand.func 27), args := { toList := [Operand.tmp 7] }, argTypes := { toList := [42] } }, guard := none },
              { dst := some 9, op := Op.binOp BinOp.eql 23 (Operand.tmp 8) (Operand.const (Value.int IntKind.i64 (Int.ofNat 7))) 23, guard := none },
              { dst := some 10, op := Op.move (Operand.tmp 9), guard := none }, { dst := some 11, op := Op.move (Operand.tmp 2), guard := some (some 10, true) },
              { dst := some 12, op := Op.binOp BinOp.eql 23 (Operand.tmp 11) (Operand.const (Value.int IntKind.i64 (Int.ofNat 5))) 23, guard := some (some 10, true) },
              { dst := some 13, op := Op.pick (Operand.tmp 10) (Operand.tmp 12) (Operand.const (Value.bool false)), guard := none }, { dst := some 14, op := Op.move (Operand.tmp 13), guard := none },
              { dst := some 15, op := Op.move (Operand.tmp 2), guard := some (some 14, true) },
              { dst := some 16,
                op :=
                  Op.call { callee := Callee.value (Operand.func 16), args := { toList := [Operand.tmp 15, Operand.const (Value.int IntKind.i64 (Int.ofNat 0))] }, argTypes := { toList := [23, 3] } },
                guard := some (some 14, true) },
              { dst := some 17, op := Op.binOp BinOp.eql 23 (Operand.tmp 16) (Operand.const (Value.int IntKind.i64 (Int.ofNat 4))) 23, guard := some (some 14, true) },
              { dst := some 18, op := Op.pick (Operand.tmp 14) (Operand.tmp 17) (Operand.const (Value.bool false)), guard := none }, { dst := some 19, op := Op.move (Operand.tmp 18), guard := none },
              { dst := some 20, op := Op.move (Operand.tmp 2), guard := some (some 19, true) },
              { dst := some 21,
                op :=
                  Op.call { callee := Callee.value (Operand.func 13), args := { toList := [Operand.tmp 20, Operand.const (Value.int IntKind.i64 (Int.ofNat 2))] }, argTypes := { toList := [23, 3] } },
                guard := some (some 19, true) },
              { dst := some 22, op := Op.pick (Operand.tmp 19) (Operand.tmp 21) (Operand.const (Value.bool false)), guard := none }, { dst := some 23, op := Op.move (Operand.tmp 22), guard := none },
              { dst := some 24, op := Op.move (Operand.tmp 2), guard := some (some 23, true) },
              { dst := some 25,
                op :=
                  Op.call { callee := Callee.value (Operand.func 14), args := { toList := [Operand.tmp 24, Operand.const (Value.int IntKind.i64 (Int.ofNat 1))] }, argTypes := { toList := [23, 3] } },
                guard := some (some 23, true) },
              { dst := some 26, op := Op.pick (Operand.tmp 23) (Operand.tmp 25) (Operand.const (Value.bool false)), guard := none }, { dst := some 27, op := Op.move (Operand.tmp 26), guard := none },
              { dst := some 28, op := Op.move (Operand.tmp 2), guard := some (some 27, true) },
              { dst := some 29,
                op :=
                  Op.call { callee := Callee.value (Operand.func 15), args := { toList := [Operand.tmp 28, Operand.const (Value.int IntKind.i64 (Int.ofNat 1))] }, argTypes := { toList := [23, 3] } },
                guard := some (some 27, true) },
              { dst := some 30, op := Op.pick (Operand.tmp 27) (Operand.tmp 29) (Operand.const (Value.bool false)), guard := none }, { dst := some 31, op := Op.move (Operand.tmp 30), guard := none },
              { dst := some 32, op := Op.move (Operand.tmp 2), guard := some (some 31, true) },
              { dst := some 33, op := Op.call { callee := Callee.value (Operand.func 12), args := { toList := [Operand.tmp 32] }, argTypes := { toList := [23] } }, guard := some (some 31, true) },
              { dst := some 34, op := Op.call { callee := Callee.builtin Builtin.len, args := { toList := [Operand.tmp 33] }, argTypes := { toList := [24] } }, guard := some (some 31, true) },
              { dst := some 35, op := Op.binOp BinOp.eql 3 (Operand.tmp 34) (Operand.const (Value.int IntKind.i64 (Int.ofNat 2))) 3, guard := some (some 31, true) },
              { dst := some 36, op := Op.pick (Operand.tmp 31) (Operand.tmp 35) (Operand.const (Value.bool false)), guard := none },
              { dst := some 0, op := Op.assign (Operand.tmp 36), guard := none }]).seq
        IC.ret)))
theorem ic11_eq : Try.f11.body.map comp = some ic11 := by kernel_rfl
theorem ic11_ok : Try.f11.body.map (okC Try.f11.ntmps) = some true := by kernel_rfl
theorem ic11_nm : (Try.f11.name != "runtime.NumGoroutine") = true := by kernel_rfl
@[simp] theorem ic11_n : Try.f11.ntmps = 37 := by kernel_rfl
@[simp] theorem ic11_r : Try.f11.results.toList = [ResultVar.tmp 0] := by kernel_rfl

def ic12 : IC :=
  (IC.ops [{ dst := some 2, op := Op.assign (Operand.const (Value.slice none 0 0)), guard := none }]).seq
  ((IC.ops
        [{ dst := some 3, op := Op.move (Operand.tmp 0), guard := none },
          { dst := some 4, op := Op.call { callee := Callee.value (Operand.func 29), args := { toList := [Operand.tmp 3] }, argTypes := { toList := [23] } }, guard := none },
          { dst := some 5, op := Op.call { callee := Callee.value (Operand.func 28), args := { toList := [Operand.tmp 4] }, argTypes := { toList := [47] } }, guard := none },
          { dst := some 2, op := Op.assign (Operand.tmp 5), guard := none }]).seq
    IC.ret)
theorem ic12_eq : Try.f12.body.map comp = some ic12 := by kernel_rfl
theorem ic12_ok : Try.f12.body.map (okC Try.f12.ntmps) = some true := by kernel_rfl
theorem ic12_nm : (Try.f12.name != "runtime.NumGoroutine") = true := by kernel_rfl
@[simp] theorem ic12_n : Try.f12.ntmps = 6 := by kernel_rfl
@[simp] theorem ic12_r : Try.f12.results.toList = [ResultVar.tmp 2] := by kernel_rfl

def ic13 : IC :=
  (IC.ops [{ dst := some 4, op := Op.assign (Operand.const (Value.bool false)), guard := none }]).seq
  ((IC.ops
        [{ dst := some 5, op := Op.move (Operand.tmp 1), guard := none },
          { dst := some 6, op := Op.call { callee := Callee.value (Operand.func 30), args := { toList := [Operand.tmp 5] }, argTypes := { toList := [3] } }, guard := none },
          { dst := some 7, op := Op.move (Operand.tmp 6), guard := none }, { dst := some 8, op := Op.move (Operand.tmp 0), guard := some (some 7, true) },
          { dst := some 9, op := Op.move (Operand.tmp 1), guard := some (some 7, true) },
          { dst := some 10, op := Op.binOp BinOp.shr 23 (Operand.tmp 8) (Operand.tmp 9) 3, guard := some (some 7, true) },
          { dst := some 11, op := Op.binOp BinOp.and 23 (Operand.tmp 10) (Operand.const (Value.int IntKind.i64 (Int.ofNat 1))) 23, guard := some (some 7, true) },
          { dst := some 12, op := Op.binOp BinOp.eql 23 (Operand.tmp 11) (Operand.const (Value.int IntKind.i64 (Int.ofNat 1))) 23, guard := some (some 7, true) },
          { dst := some 13, op := Op.pick (Operand.tmp 7) (Operand.tmp 12) (Operand.const (Value.bool false)), guard := none }, { dst := some 4, op := Op.assign (Operand.tmp 13), guard := none }]).seq
    IC.ret)
theorem ic13_eq : Try.f13.body.map comp = some ic13 := by kernel_rfl
theorem ic13_ok : Try.f13.body.map (okC Try.f13.ntmps) = some true := by kernel_rfl
theorem ic13_nm : (Try.f13.name != "runtime.NumGoroutine") = true := by kernel_rfl
@[simp] theorem ic13_n : Try.f13.ntmps = 14 := by kernel_rfl
@[simp] theorem ic13_r : Try.f13.results.toList = [ResultVar.tmp 4] := by kernel_rfl

def ic14 : IC :=
  (IC.ops [{ dst := some 3, op := Op.box 3 (Operand.tmp 1), guard := none }, { dst := some 4, op := Op.alloc 4, guard := none }]).seq
  (((IC.ops
            [{ dst := some 6, op := Op.move (Operand.tmp 0), guard := none },
              { dst := some 7, op := Op.call { callee := Callee.value (Operand.func 29), args := { toList := [Operand.tmp 6] }, argTypes := { toList := [23] } }, guard := none }]).seq
        (IC.block 0
          (IC.range (Operand.tmp 7) { toList := [8] } (IC.ops [{ dst := some 5, op := Op.assign (Operand.tmp 8), guard := none }])
            (IC.block 1
              ((IC.ops
                    [{ dst := some 9, op := Op.move (Operand.tmp 5), guard := none }, { dst := some 10, op := Op.load 3 (Operand.tmp 3), guard := none },
                      { dst := some 11, op := Op.binOp BinOp.gtr 3 (Operand.tmp 9) (Operand.tmp 10) 3, guard := none }]).seq
                (IC.cond (Operand.tmp 11) ((IC.ops [{ dst := none, op := Op.store 4 (Operand.tmp 4) (Operand.const (Value.bool true)), guard := none }]).seq IC.ret) IC.skip)))))).seq
    ((IC.ops [{ dst := none, op := Op.store 4 (Operand.tmp 4) (Operand.const (Value.bool false)), guard := none }]).seq IC.ret))
theorem ic14_eq : Try.f14.body.map comp = some ic14 := by kernel_rfl
theorem ic14_ok : Try.f14.body.map (okC Try.f14.ntmps) = some true := by kernel_rfl
theorem ic14_nm : (Try.f14.name != "runtime.NumGoroutine") = true := by kernel_rfl
@[simp] theorem ic14_n : Try.f14.ntmps = 12 := by kernel_rfl
@[simp] theorem ic14_r : Try.f14.results.toList = [ResultVar.cell 4 4] := by kernel_rfl

def ic15 : IC :=
  (IC.ops [{ dst := some 3, op := Op.box 3 (Operand.tmp 1), guard := none }, { dst := some 4, op := Op.alloc 4, guard := none }]).seq
  (((IC.ops
            [{ dst := some 6, op := Op.move (Operand.tmp 0), guard := none },
              { dst := some 7, op := Op.call { callee := Callee.value (Operand.func 29), args := { toList := [Operand.tmp 6] }, argTypes := { toList := [23] } }, guard := none }]).seq
        (IC.block 0
          (IC.range (Operand.tmp 7) { toList := [8] } (IC.ops [{ dst := some 5, op := Op.assign (Operand.tmp 8), guard := none }])
            (IC.block 1
              ((IC.ops
                    [{ dst := some 9, op := Op.move (Operand.tmp 5), guard := none }, { dst := some 10, op := Op.load 3 (Operand.tmp 3), guard := none },
                      { dst := some 11, op := Op.binOp BinOp.lss 3 (Operand.tmp 9) (Operand.tmp 10) 3, guard := none },
                      { dst := none, op := Op.store 4 (Operand.tmp 4) (Operand.tmp 11), guard := none }]).seq
                IC.ret))))).seq
    ((IC.ops [{ dst := none, op := Op.store 4 (Operand.tmp 4) (Operand.const (Value.bool false)), guard := none }]).seq IC.ret))
theorem ic15_eq : Try.f15.body.map comp = some ic15 := by kernel_rfl
theorem ic15_ok : Try.f15.body.map (okC Try.f15.ntmps) = some true := by kernel_rfl
theorem ic15_nm : (Try.f15.name != "runtime.NumGoroutine") = true := by kernel_rfl
@[simp] theorem ic15_n : Try.f15.ntmps = 12 := by kernel_rfl
@[simp] theorem ic15_r : Try.f15.results.toList = [ResultVar.cell 4 4] := by kernel_rfl

def ic16 : IC :=
  (IC.ops [{ dst := some 4, op := Op.assign (Operand.const (Value.int IntKind.i64 (Int.ofNat 0))), guard := none }]).seq
  (((IC.ops
            [{ dst := some 5, op := Op.move (Operand.tmp 1), guard := none },
              { dst := some 6, op := Op.call { callee := Callee.value (Operand.func 30), args := { toList := [Operand.tmp 5] }, argTypes := { toList := [3] } }, guard := none }]).seq
        (IC.cond (Operand.tmp 6)
          (IC.ops
            [{ dst := some 7, op := Op.move (Operand.tmp 0), guard := none }, { dst := some 8, op := Op.move (Operand.tmp 1), guard := none },
              { dst := some 9, op := Op.binOp BinOp.shl 23 (Operand.const (Value.int IntKind.i64 (Int.ofNat 1))) (Operand.tmp 8) 3, guard := none },
              { dst := some 10, op := Op.binOp BinOp.andNot 23 (Operand.tmp 7) (Operand.tmp 9) 23, guard := none }, { dst := some 0, op := Op.assign (Operand.tmp 10), guard := none }])
          IC.skip)).seq
    ((IC.ops
          [{ dst := some 11, op := Op.move (Operand.tmp 0), guard := none },
            { dst := some 12, op := Op.binOp BinOp.and 23 (Operand.tmp 11) (Operand.const (Value.int IntKind.i64 (Int.ofNat 65535))) 23, guard := none },
            { dst := some 4, op := Op.assign (Operand.tmp 12), guard := none }]).seq
      IC.ret))
theorem ic16_eq : Try.f16.body.map comp = some ic16 := by kernel_rfl
theorem ic16_ok : Try.f16.body.map (okC Try.f16.ntmps) = some true := by kernel_rfl
theorem ic16_nm : (Try.f16.name != "runtime.NumGoroutine") = true := by kernel_rfl
@[simp] theorem ic16_n : Try.f16.ntmps = 13 := by kernel_rfl
@[simp] theorem ic16_r : Try.f16.results.toList = [ResultVar.tmp 4] := by kernel_rfl

def ic17 : IC :=
  (IC.ops [{ dst := some 0, op := Op.assign (Operand.const (Value.bool false)), guard := none }]).seq
  ((IC.ops
        [{ dst := some 5,
            op :=
              Op.call
                { callee := Callee.value (Operand.func 19),
                  args :=
                    { toList := [Operand.const (Value.int IntKind.i64 (Int.ofNat 82)), Operand.const (Value.int IntKind.i64 (Int.ofNat 3)), Operand.const (Value.int IntKind.i64 (Int.negSucc 0))] },
                  argTypes := { toList := [23, 3, 3] } },
            guard := none },
          { dst := some 4, op := Op.move (Operand.tmp 5), guard := none }, { dst := some 6, op := Op.extract (Operand.tmp 4) 0, guard := none },
          { dst := some 7, op := Op.extract (Operand.tmp 4) 1, guard := none }, { dst := some 8, op := Op.extract (Operand.tmp 4) 2, guard := none },
          { dst := some 1, op := Op.assign (Operand.tmp 6), guard := none }, { dst := some 2, op := Op.assign (Operand.tmp 7), guard := none },
          { dst := some 3, op := Op.assign (Operand.tmp 8), guard := none }]).seq
    ((IC.ops
          [{ dst := some 9, op := Op.move (Operand.tmp 1), guard := none },
            { dst := some 10, op := Op.binOp BinOp.eql 3 (Operand.tmp 9) (Operand.const (Value.int IntKind.i64 (Int.ofNat 1))) 3, guard := none },
            { dst := some 11, op := Op.move (Operand.tmp 10), guard := none }, { dst := some 12, op := Op.move (Operand.tmp 2), guard := some (some 11, true) },
            { dst := some 13, op := Op.binOp BinOp.eql 3 (Operand.tmp 12) (Operand.const (Value.int IntKind.i64 (Int.negSucc 0))) 3, guard := some (some 11, true) },
            { dst := some 14, op := Op.pick (Operand.tmp 11) (Operand.tmp 13) (Operand.const (Value.bool false)), guard := none }, { dst := some 15, op := Op.move (Operand.tmp 14), guard := none },
            { dst := some 16, op := Op.move (Operand.tmp 3), guard := some (some 15, true) },
            { dst := some 17, op := Op.pick (Operand.tmp 15) (Operand.tmp 16) (Operand.const (Value.bool false)), guard := none }, { dst := some 18, op := Op.move (Operand.tmp 17), guard := none },
            { dst := some 19,
              op :=
                Op.call
                  { callee := Callee.value (Operand.func 22),
                    args :=
                      { toList := [Operand.const (Value.int IntKind.i64 (Int.ofNat 82)), Operand.const (Value.int IntKind.i64 (Int.ofNat 3)), Operand.const (Value.int IntKind.i64 (Int.negSucc 0))] },
                    argTypes := { toList := [23, 3, 3] } },
              guard := some (some 18, true) },
            { dst := some 20,
              op :=
                Op.buildSlice 24 3
                  {
                    toList :=
                      [(0, Operand.const (Value.int IntKind.i64 (Int.ofNat 1))), (1, Operand.const (Value.int IntKind.i64 (Int.ofNat 4))), (2, Operand.const (Value.int IntKind.i64 (Int.ofNat 6)))] },
              guard := some (some 18, true) },
            { dst := some 21, op := Op.call { callee := Callee.value (Operand.func 21), args := { toList := [Operand.tmp 19, Operand.tmp 20] }, argTypes := { toList := [24, 24] } },
              guard := some (some 18, true) },
            { dst := some 22, op := Op.pick (Operand.tmp 18) (Operand.tmp 21) (Operand.const (Value.bool false)), guard := none },
            { dst := some 0, op := Op.assign (Operand.tmp 22), guard := none }]).seq
      IC.ret))
theorem ic17_eq : Try.f17.body.map comp = some ic17 := by kernel_rfl
theorem ic17_ok : Try.f17.body.map (okC Try.f17.ntmps) = some true := by kernel_rfl
theorem ic17_nm : (Try.f17.name != "runtime.NumGoroutine") = true := by kernel_rfl
@[simp] theorem ic17_n : Try.f17.ntmps = 23 := by kernel_rfl
@[simp] theorem ic17_r : Try.f17.results.toList = [ResultVar.tmp 0] := by kernel_rfl

def ic18 : IC :=
  (IC.ops [{ dst := some 2, op := Op.assign (Operand.const (Value.bool false)), guard := none }]).seq
  ((IC.ops
        [{ dst := some 3, op := Op.move (Operand.tmp 0), guard := none },
          { dst := some 4, op := Op.call { callee := Callee.value (Operand.func 31), args := { toList := [Operand.tmp 3] }, argTypes := { toList := [3] } }, guard := none },
          { dst := some 2, op := Op.assign (Operand.tmp 4), guard := none }]).seq
    IC.ret)
theorem ic18_eq : Try.f18.body.map comp = some ic18 := by kernel_rfl
theorem ic18_ok : Try.f18.body.map (okC Try.f18.ntmps) = some true := by kernel_rfl
theorem ic18_nm : (Try.f18.name != "runtime.NumGoroutine") = true := by kernel_rfl
@[simp] theorem ic18_n : Try.f18.ntmps = 5 := by kernel_rfl
@[simp] theorem ic18_r : Try.f18.results.toList = [ResultVar.tmp 2] := by kernel_rfl

def ic19 : IC :=
  (IC.ops
      [{ dst := some 6, op := Op.assign (Operand.const (Value.int IntKind.i64 (Int.ofNat 0))), guard := none },
        { dst := some 7, op := Op.assign (Operand.const (Value.int IntKind.i64 (Int.ofNat 0))), guard := none },
        { dst := some 8, op := Op.assign (Operand.const (Value.bool false)), guard := none }]).seq
  ((IC.ops
        [{ dst := some 10, op := Op.move (Operand.tmp 2), guard := none },
          { dst := some 11, op := Op.call { callee := Callee.value (Operand.func 32), args := { toList := [Operand.tmp 10] }, argTypes := { toList := [3] } }, guard := none },
          { dst := some 2, op := Op.assign (Operand.tmp 11), guard := none }]).seq
    (((IC.ops
              [{ dst := some 12, op := Op.move (Operand.tmp 0), guard := none }, { dst := some 13, op := Op.move (Operand.tmp 1), guard := none },
                { dst := some 14, op := Op.call { callee := Callee.value (Operand.func 13), args := { toList := [Operand.tmp 12, Operand.tmp 13] }, argTypes := { toList := [23, 3] } },
                  guard := none }]).seq
          (IC.cond (Operand.tmp 14)
            ((IC.ops
                  [{ dst := some 15, op := Op.move (Operand.tmp 1), guard := none }, { dst := some 16, op := Op.move (Operand.tmp 2), guard := none },
                    { dst := some 6, op := Op.assign (Operand.tmp 15), guard := none }, { dst := some 7, op := Op.assign (Operand.tmp 16), guard := none },
                    { dst := some 8, op := Op.assign (Operand.const (Value.bool true)), guard := none }]).seq
              IC.ret)
            IC.skip)).seq
      ((IC.ops
            [{ dst := some 17, op := Op.move (Operand.tmp 0), guard := none }, { dst := some 18, op := Op.move (Operand.tmp 1), guard := none },
              { dst := some 19, op := Op.move (Operand.tmp 2), guard := none },
              { dst := some 20,
                op := Op.call { callee := Callee.value (Operand.func 33), args := { toList := [Operand.tmp 17, Operand.tmp 18, Operand.tmp 19] }, argTypes := { toList := [23, 3, 3] } },
                guard := none },
              { dst := some 9, op := Op.assign (Operand.tmp 20), guard := none }]).seq
        (((IC.ops
                  [{ dst := some 21, op := Op.move (Operand.tmp 9), guard := none },
                    { dst := some 22, op := Op.call { callee := Callee.builtin Builtin.len, args := { toList := [Operand.tmp 21] }, argTypes := { toList := [24] } }, guard := none },
                    { dst := some 23, op := Op.binOp BinOp.eql 3 (Operand.tmp 22) (Operand.const (Value.int IntKind.i64 (Int.ofNat 0))) 3, guard := none }]).seq
              (IC.cond (Operand.tmp 23)
                (IC.ops
                  [{ dst := some 24, op := Op.move (Operand.tmp 0), guard := none }, { dst := some 25, op := Op.move (Operand.tmp 1), guard := none },
                    { dst := some 26,
                      op :=
                        Op.call
                          { callee := Callee.value (Operand.func 33), args := { toList := [Operand.tmp 24, Operand.tmp 25, Operand.const (Value.int IntKind.i64 (Int.negSucc 0))] },
                            argTypes := { toList := [23, 3, 3] } },
                      guard := none },
                    { dst := some 27, op := Op.move (Operand.tmp 0), guard := none }, { dst := some 28, op := Op.move (Operand.tmp 1), guard := none },
                    { dst := some 29,
                      op :=
                        Op.call
                          { callee := Callee.value (Operand.func 33), args := { toList := [Operand.tmp 27, Operand.tmp 28, Operand.const (Value.int IntKind.i64 (Int.ofNat 1))] },
                            argTypes := { toList := [23, 3, 3] } },
                      guard := none },
                    { dst := some 30, op := Op.call { callee := Callee.builtin Builtin.append, args := { toList := [Operand.tmp 26, Operand.tmp 29] }, argTypes := { toList := [24, 24] } },
                      guard := none },
                    { dst := some 9, op := Op.assign (Operand.tmp 30), guard := none }])
                IC.skip)).seq
          ((IC.ops
                [{ dst := some 32, op := Op.move (Operand.tmp 1), guard := none }, { dst := some 33, op := Op.move (Operand.tmp 9), guard := none },
                  { dst := some 34, op := Op.call { callee := Callee.value (Operand.func 34), args := { toList := [Operand.tmp 32, Operand.tmp 33] }, argTypes := { toList := [3, 24] } },
                    guard := none },
                  { dst := some 31, op := Op.move (Operand.tmp 34), guard := none }, { dst := some 35, op := Op.extract (Operand.tmp 31) 0, guard := none },
                  { dst := some 36, op := Op.extract (Operand.tmp 31) 1, guard := none }, { dst := some 6, op := Op.assign (Operand.tmp 35), guard := none },
                  { dst := some 8, op := Op.assign (Operand.tmp 36), guard := none }]).seq
            ((IC.block 0
                  ((IC.ops
                        [{ dst := some 38, op := Op.move (Operand.tmp 8), guard := none }, { dst := some 39, op := Op.unOp UnOp.not 4 (Operand.tmp 38), guard := none },
                          { dst := some 37, op := Op.assign (Operand.tmp 39), guard := none }]).seq
                    (IC.cond (Operand.tmp 37)
                      ((IC.ops
                            [{ dst := some 6, op := Op.assign (Operand.const (Value.int IntKind.i64 (Int.ofNat 0))), guard := none },
                              { dst := some 7, op := Op.assign (Operand.const (Value.int IntKind.i64 (Int.ofNat 0))), guard := none },
                              { dst := some 8, op := Op.assign (Operand.const (Value.bool false)), guard := none }]).seq
                        IC.ret)
                      ((IC.ops
                            [{ dst := some 41, op := Op.move (Operand.tmp 6), guard := none }, { dst := some 42, op := Op.move (Operand.tmp 1), guard := none },
                              { dst := some 43, op := Op.binOp BinOp.gtr 3 (Operand.tmp 41) (Operand.tmp 42) 3, guard := none },
                              { dst := some 40, op := Op.assign (Operand.tmp 43), guard := none }]).seq
                        (IC.cond (Operand.tmp 40)
                          ((IC.ops
                                [{ dst := some 44, op := Op.move (Operand.tmp 6), guard := none }, { dst := some 6, op := Op.assign (Operand.tmp 44), guard := none },
                                  { dst := some 7, op := Op.assign (Operand.const (Value.int IntKind.i64 (Int.ofNat 1))), guard := none },
                                  { dst := some 8, op := Op.assign (Operand.const (Value.bool true)), guard := none }]).seq
                            IC.ret)
                          IC.skip))))).seq
              ((IC.ops
                    [{ dst := some 45, op := Op.move (Operand.tmp 6), guard := none }, { dst := some 6, op := Op.assign (Operand.tmp 45), guard := none },
                      { dst := some 7, op := Op.assign (Operand.const (Value.int IntKind.i64 (Int.negSucc 0))), guard := none },
                      { dst := some 8, op := Op.assign (Operand.const (Value.bool true)), guard := none }]).seq
                IC.ret)))))))
theorem ic19_eq : Try.f19.body.map comp = some ic19 := by kernel_rfl
theorem ic19_ok : Try.f19.body.map (okC Try.f19.ntmps) = some true := by kernel_rfl
theorem ic19_nm : (Try.f19.name != "runtime.NumGoroutine") = true := by kernel_rfl
@[simp] theorem ic19_n : Try.f19.ntmps = 46 := by kernel_rfl
@[simp] theorem ic19_r : Try.f19.results.toList = [ResultVar.tmp 6, ResultVar.tmp 7, ResultVar.tmp 8] := by kernel_rfl

def ic20 : IC :=
  (IC.ops
      [{ dst := some 6, op := Op.assign (Operand.const (Value.int IntKind.i64 (Int.ofNat 0))), guard := none },
        { dst := some 7, op := Op.assign (Operand.const (Value.int IntKind.i64 (Int.ofNat 0))), guard := none },
        { dst := some 8, op := Op.assign (Operand.const (Value.bool false)), guard := none }]).seq
  ((IC.ops
        [{ dst := some 12, op := Op.move (Operand.tmp 0), guard := none },
          { dst := some 13, op := Op.call { callee := Callee.value (Operand.func 25), args := { toList := [Operand.tmp 12] }, argTypes := { toList := [3] } }, guard := none },
          { dst := some 9, op := Op.assign (Operand.tmp 13), guard := none }]).seq
    (((IC.ops
              [{ dst := some 14, op := Op.move (Operand.tmp 2), guard := none },
                { dst := some 15, op := Op.binOp BinOp.neq 3 (Operand.tmp 14) (Operand.const (Value.int IntKind.i64 (Int.ofNat 1))) 3, guard := none },
                { dst := some 16, op := Op.move (Operand.tmp 15), guard := none }, { dst := some 17, op := Op.move (Operand.tmp 2), guard := some (some 16, true) },
                { dst := some 18, op := Op.binOp BinOp.neq 3 (Operand.tmp 17) (Operand.const (Value.int IntKind.i64 (Int.negSucc 0))) 3, guard := some (some 16, true) },
                { dst := some 19, op := Op.pick (Operand.tmp 16) (Operand.tmp 18) (Operand.const (Value.bool false)), guard := none }]).seq
          (IC.cond (Operand.tmp 19) (IC.ops [{ dst := some 2, op := Op.assign (Operand.const (Value.int IntKind.i64 (Int.ofNat 0))), guard := none }]) IC.skip)).seq
      (((IC.ops
                [{ dst := some 20, op := Op.move (Operand.tmp 9), guard := none },
                  { dst := some 21, op := Op.call { callee := Callee.builtin Builtin.len, args := { toList := [Operand.tmp 20] }, argTypes := { toList := [24] } }, guard := none },
                  { dst := some 22, op := Op.binOp BinOp.eql 3 (Operand.tmp 21) (Operand.const (Value.int IntKind.i64 (Int.ofNat 0))) 3, guard := none }]).seq
            (IC.cond (Operand.tmp 22)
              ((IC.ops
                    [{ dst := some 6, op := Op.assign (Operand.const (Value.int IntKind.i64 (Int.ofNat 0))), guard := none },
                      { dst := some 7, op := Op.assign (Operand.const (Value.int IntKind.i64 (Int.ofNat 0))), guard := none },
                      { dst := some 8, op := Op.assign (Operand.const (Value.bool false)), guard := none }]).seq
                IC.ret)
              IC.skip)).seq
        (((IC.ops
                  [{ dst := some 23, op := Op.move (Operand.tmp 9), guard := none }, { dst := some 24, op := Op.move (Operand.tmp 1), guard := none },
                    { dst := some 25, op := Op.call { callee := Callee.value (Operand.func 35), args := { toList := [Operand.tmp 23, Operand.tmp 24] }, argTypes := { toList := [24, 3] } },
                      guard := none }]).seq
              (IC.cond (Operand.tmp 25)
                ((IC.ops
                      [{ dst := some 26, op := Op.move (Operand.tmp 1), guard := none }, { dst := some 27, op := Op.move (Operand.tmp 2), guard := none },
                        { dst := some 6, op := Op.assign (Operand.tmp 26), guard := none }, { dst := some 7, op := Op.assign (Operand.tmp 27), guard := none },
                        { dst := some 8, op := Op.assign (Operand.const (Value.bool true)), guard := none }]).seq
                  IC.ret)
                IC.skip)).seq
          ((IC.ops
                [{ dst := some 28, op := Op.move (Operand.tmp 9), guard := none }, { dst := some 29, op := Op.move (Operand.tmp 1), guard := none },
                  { dst := some 30,
                    op :=
                      Op.call
                        { callee := Callee.value (Operand.func 36), args := { toList := [Operand.tmp 28, Operand.tmp 29, Operand.const (Value.int IntKind.i64 (Int.ofNat 1))] },
                          argTypes := { toList := [24, 3, 3] } },
                    guard := none },
                  { dst := some 10, op := Op.assign (Operand.tmp 30), guard := none }]).seq
            ((IC.ops
                  [{ dst := some 31, op := Op.move (Operand.tmp 9), guard := none }, { dst := some 32, op := Op.move (Operand.tmp 1), guard := none },
                    { dst := some 33,
                      op :=
                        Op.call
                          { callee := Callee.value (Operand.func 36), args := { toList := [Operand.tmp 31, Operand.tmp 32, Operand.const (Value.int IntKind.i64 (Int.negSucc 0))] },
                            argTypes := { toList := [24, 3, 3] } },
                      guard := none },
                    { dst := some 11, op := Op.assign (Operand.tmp 33), guard := none }]).seq
              (((IC.ops
                        [{ dst := some 34, op := Op.move (Operand.tmp 10), guard := none },
                          { dst := some 35, op := Op.binOp BinOp.geq 3 (Operand.tmp 34) (Operand.const (Value.int IntKind.i64 (Int.ofNat 0))) 3, guard := none },
                          { dst := some 36, op := Op.move (Operand.tmp 35), guard := none }, { dst := some 37, op := Op.move (Operand.tmp 2), guard := some (some 36, true) },
                          { dst := some 38, op := Op.binOp BinOp.eql 3 (Operand.tmp 37) (Operand.const (Value.int IntKind.i64 (Int.ofNat 1))) 3, guard := some (some 36, true) },
                          { dst := some 39, op := Op.move (Operand.tmp 38), guard := some (some 36, true) }, { dst := some 40, op := Op.move (Operand.tmp 11), guard := some (some 39, false) },
                          { dst := some 41, op := Op.binOp BinOp.lss 3 (Operand.tmp 40) (Operand.const (Value.int IntKind.i64 (Int.ofNat 0))) 3, guard := some (some 39, false) },
                          { dst := some 42, op := Op.pick (Operand.tmp 39) (Operand.const (Value.bool true)) (Operand.tmp 41), guard := some (some 36, true) },
                          { dst := some 43, op := Op.pick (Operand.tmp 36) (Operand.tmp 42) (Operand.const (Value.bool false)), guard := none }]).seq
                    (IC.cond (Operand.tmp 43)
                      ((IC.ops
                            [{ dst := some 44, op := Op.move (Operand.tmp 10), guard := none }, { dst := some 6, op := Op.assign (Operand.tmp 44), guard := none },
                              { dst := some 7, op := Op.assign (Operand.const (Value.int IntKind.i64 (Int.ofNat 1))), guard := none },
                              { dst := some 8, op := Op.assign (Operand.const (Value.bool true)), guard := none }]).seq
                        IC.ret)
                      IC.skip)).seq
                (((IC.ops
                          [{ dst := some 45, op := Op.move (Operand.tmp 11), guard := none },
                            { dst := some 46, op := Op.binOp BinOp.geq 3 (Operand.tmp 45) (Operand.const (Value.int IntKind.i64 (Int.ofNat 0))) 3, guard := none },
                            { dst := some 47, op := Op.move (Operand.tmp 46), guard := none }, { dst := some 48, op := Op.move (Operand.tmp 2), guard := some (some 47, true) },
                            { dst := some 49, op := Op.binOp BinOp.eql 3 (Operand.tmp 48) (Operand.const (Value.int IntKind.i64 (Int.negSucc 0))) 3, guard := some (some 47, true) },
                            { dst := some 50, op := Op.move (Operand.tmp 49), guard := some (some 47, true) }, { dst := some 51, op := Op.move (Operand.tmp 10), guard := some (some 50, false) },
                            { dst := some 52, op := Op.binOp BinOp.lss 3 (Operand.tmp 51) (Operand.const (Value.int IntKind.i64 (Int.ofNat 0))) 3, guard := some (some 50, false) },
                            { dst := some 53, op := Op.pick (Operand.tmp 50) (Operand.const (Value.bool true)) (Operand.tmp 52), guard := some (some 47, true) },
                            { dst := some 54, op := Op.pick (Operand.tmp 47) (Operand.tmp 53) (Operand.const (Value.bool false)), guard := none }]).seq
                      (IC.cond (Operand.tmp 54)
                        ((IC.ops
                              [{ dst := some 55, op := Op.move (Operand.tmp 11), guard := none }, { dst := some 6, op := Op.assign (Operand.tmp 55), guard := none },
                                { dst := some 7, op := Op.assign (Operand.const (Value.int IntKind.i64 (Int.negSucc 0))), guard := none },
                                { dst := some 8, op := Op.assign (Operand.const (Value.bool true)), guard := none }]).seq
                          IC.ret)
                        IC.skip)).seq
                  (((IC.ops
                            [{ dst := some 56, op := Op.move (Operand.tmp 10), guard := none }, { dst := some 57, op := Op.move (Operand.tmp 1), guard := none },
                              { dst := some 58, op := Op.binOp BinOp.sub 3 (Operand.tmp 56) (Operand.tmp 57) 3, guard := none }, { dst := some 59, op := Op.move (Operand.tmp 1), guard := none },
                              { dst := some 60, op := Op.move (Operand.tmp 11), guard := none }, { dst := some 61, op := Op.binOp BinOp.sub 3 (Operand.tmp 59) (Operand.tmp 60) 3, guard := none },
                              { dst := some 62, op := Op.binOp BinOp.lss 3 (Operand.tmp 58) (Operand.tmp 61) 3, guard := none }]).seq
                        (IC.cond (Operand.tmp 62)
                          ((IC.ops
                                [{ dst := some 63, op := Op.move (Operand.tmp 10), guard := none }, { dst := some 6, op := Op.assign (Operand.tmp 63), guard := none },
                                  { dst := some 7, op := Op.assign (Operand.const (Value.int IntKind.i64 (Int.ofNat 1))), guard := none },
                                  { dst := some 8, op := Op.assign (Operand.const (Value.bool true)), guard := none }]).seq
                            IC.ret)
                          IC.skip)).seq
                    ((IC.ops
                          [{ dst := some 64, op := Op.move (Operand.tmp 11), guard := none }, { dst := some 6, op := Op.assign (Operand.tmp 64), guard := none },
                            { dst := some 7, op := Op.assign (Operand.const (Value.int IntKind.i64 (Int.negSucc 0))), guard := none },
                            { dst := some 8, op := Op.assign (Operand.const (Value.bool true)), guard := none }]).seq
                      IC.ret))))))))))
theorem ic20_eq : Try.f20.body.map comp = some ic20 := by kernel_rfl
theorem ic20_ok : Try.f20.body.map (okC Try.f20.ntmps) = some true := by kernel_rfl
theorem ic20_nm : (Try.f20.name != "runtime.NumGoroutine") = true := by kernel_rfl
@[simp] theorem ic20_n : Try.f20.ntmps = 65 := by kernel_rfl
@[simp] theorem ic20_r : Try.f20.results.toList = [ResultVar.tmp 6, ResultVar.tmp 7, ResultVar.tmp 8] := by kernel_rfl

def ic21 : IC :=
  (IC.ops [{ dst := some 4, op := Op.assign (Operand.const (Value.bool false)), guard := none }]).seq
  (((IC.ops
            [{ dst := some 6, op := Op.move (Operand.tmp 0), guard := none },
              { dst := some 7, op := Op.call { callee := Callee.builtin Builtin.len, args := { toList := [Operand.tmp 6] }, argTypes := { toList := [24] } }, guard := none },
              { dst := some 8, op := Op.move (Operand.tmp 1), guard := none },
              { dst := some 9, op := Op.call { callee := Callee.builtin Builtin.len, args := { toList := [Operand.tmp 8] }, argTypes := { toList := [24] } }, guard := none },
              { dst := some 10, op := Op.binOp BinOp.neq 3 (Operand.tmp 7) (Operand.tmp 9) 3, guard := none }]).seq
        (IC.cond (Operand.tmp 10) ((IC.ops [{ dst := some 4, op := Op.assign (Operand.const (Value.bool false)), guard := none }]).seq IC.ret) IC.skip)).seq
    (((IC.ops
              [{ dst := some 11, op := Op.move (Operand.tmp 0), guard := none },
                { dst := some 12, op := Op.call { callee := Callee.builtin Builtin.len, args := { toList := [Operand.tmp 11] }, argTypes := { toList := [24] } }, guard := none },
                { dst := some 13, op := Op.move (Operand.const (Value.int IntKind.i64 (Int.ofNat 0))), guard := none }]).seq
          (IC.block 0
            ((IC.ops [{ dst := some 14, op := Op.binOp BinOp.lss 3 (Operand.tmp 13) (Operand.tmp 12) 3, guard := none }]).seq
                ((IC.cond (Operand.tmp 14) IC.skip (IC.exit 0)).seq
                  ((IC.block 1
                        ((IC.ops [{ dst := some 15, op := Op.move (Operand.tmp 13), guard := none }, { dst := some 5, op := Op.assign (Operand.tmp 15), guard := none }]).seq
                          ((IC.opsD
                                [{ dst := some 16, op := Op.move (Operand.tmp 0), guard := none }, { dst := some 17, op := Op.move (Operand.tmp 5), guard := none },
                                  { dst := some 18, op := Op.indexAddr 24 (Operand.tmp 16) (Operand.tmp 17), guard := none, bef := [0, 1] },
                                  { dst := some 19, op := Op.load 3 (Operand.tmp 18), guard := none, bef := [2, 0, 1] }, { dst := some 20, op := Op.move (Operand.tmp 1), guard := none },
                                  { dst := some 21, op := Op.move (Operand.tmp 5), guard := none },
                                  { dst := some 22, op := Op.indexAddr 24 (Operand.tmp 20) (Operand.tmp 21), guard := none, bef := [4, 5] },
                                  { dst := some 23, op := Op.load 3 (Operand.tmp 22), guard := none, bef := [6, 4, 5] },
                                  { dst := some 24, op := Op.binOp BinOp.neq 3 (Operand.tmp 19) (Operand.tmp 23) 3, guard := none, bef := [3, 2, 0, 1, 7, 6, 4, 5] }]).seq
                            (IC.cond (Operand.tmp 24) ((IC.ops [{ dst := some 4, op := Op.assign (Operand.const (Value.bool false)), guard := none }]).seq IC.ret) IC.skip)))).seq
                    (IC.ops
                      [{ dst := some 25, op := Op.binOp BinOp.add 3 (Operand.tmp 13) (Operand.const (Value.int IntKind.i64 (Int.ofNat 1))) 3, guard := none },
                        { dst := some 13, op := Op.move (Operand.tmp 25), guard := none }])))).loop)).seq
      ((IC.ops [{ dst := some 4, op := Op.assign (Operand.const (Value.bool true)), guard := none }]).seq IC.ret)))
theorem ic21_eq : Try.f21.body.map comp = some ic21 := by kernel_rfl
theorem ic21_ok : Try.f21.body.map (okC Try.f21.ntmps) = some true := by kernel_rfl
theorem ic21_nm : (Try.f21.name != "runtime.NumGoroutine") = true := by kernel_rfl
@[simp] theorem ic21_n : Try.f21.ntmps = 26 := by kernel_rfl
@[simp] theorem ic21_r : Try.f21.results.toList = [ResultVar.tmp 4] := by kernel_rfl

def ic22 : IC :=
  (IC.ops [{ dst := some 6, op := Op.assign (Operand.const (Value.slice none 0 0)), guard := none }]).seq
  ((IC.ops [{ dst := some 7, op := Op.assign (Operand.const (Value.slice none 0 0)), guard := none }]).seq
    (IC.block 0
      (IC.block 1
          ((IC.ops
                [{ dst := some 12, op := Op.move (Operand.tmp 0), guard := none }, { dst := some 13, op := Op.move (Operand.tmp 1), guard := none },
                  { dst := some 14, op := Op.move (Operand.tmp 2), guard := none },
                  { dst := some 15,
                    op := Op.call { callee := Callee.value (Operand.func 19), args := { toList := [Operand.tmp 12, Operand.tmp 13, Operand.tmp 14] }, argTypes := { toList := [23, 3, 3] } },
                    guard := none },
                  { dst := some 11, op := Op.move (Operand.tmp 15), guard := none }, { dst := some 16, op := Op.extract (Operand.tmp 11) 0, guard := none },
                  { dst := some 17, op := Op.extract (Operand.tmp 11) 1, guard := none }, { dst := some 18, op := Op.extract (Operand.tmp 11) 2, guard := none },
                  { dst := some 8, op := Op.assign (Operand.tmp 16), guard := none }, { dst := some 9, op := Op.assign (Operand.tmp 17), guard := none },
                  { dst := some 10, op := Op.assign (Operand.tmp 18), guard := none }]).seq
            (((IC.ops [{ dst := some 19, op := Op.move (Operand.tmp 10), guard := none }, { dst := some 20, op := Op.unOp UnOp.not 4 (Operand.tmp 19), guard := none }]).seq
                  (IC.cond (Operand.tmp 20) ((IC.ops [{ dst := some 21, op := Op.move (Operand.tmp 7), guard := none }, { dst := some 6, op := Op.assign (Operand.tmp 21), guard := none }]).seq IC.ret)
                    IC.skip)).seq
              ((IC.ops
                    [{ dst := some 22, op := Op.move (Operand.tmp 7), guard := none }, { dst := some 23, op := Op.move (Operand.tmp 8), guard := none },
                      { dst := some 24, op := Op.buildSlice 24 1 { toList := [(0, Operand.tmp 23)] }, guard := none },
                      { dst := some 25, op := Op.call { callee := Callee.builtin Builtin.append, args := { toList := [Operand.tmp 22, Operand.tmp 24] }, argTypes := { toList := [24, 24] } },
                        guard := none },
                      { dst := some 7, op := Op.assign (Operand.tmp 25), guard := none }]).seq
                (IC.ops
                  [{ dst := some 26, op := Op.move (Operand.tmp 0), guard := none }, { dst := some 27, op := Op.move (Operand.tmp 8), guard := none },
                    { dst := some 28, op := Op.call { callee := Callee.value (Operand.func 16), args := { toList := [Operand.tmp 26, Operand.tmp 27] }, argTypes := { toList := [23, 3] } },
                      guard := none },
                    { dst := some 29, op := Op.move (Operand.tmp 8), guard := none }, { dst := some 30, op := Op.move (Operand.tmp 9), guard := none },
                    { dst := some 0, op := Op.assign (Operand.tmp 28), guard := none }, { dst := some 1, op := Op.assign (Operand.tmp 29), guard := none },
                    { dst := some 2, op := Op.assign (Operand.tmp 30), guard := none }]))))).loop))
theorem ic22_eq : Try.f22.body.map comp = some ic22 := by kernel_rfl
theorem ic22_ok : Try.f22.body.map (okC Try.f22.ntmps) = some true := by kernel_rfl
theorem ic22_nm : (Try.f22.name != "runtime.NumGoroutine") = true := by kernel_rfl
@[simp] theorem ic22_n : Try.f22.ntmps = 31 := by kernel_rfl
@[simp] theorem ic22_r : Try.f22.results.toList = [ResultVar.tmp 6] := by kernel_rfl

def ic23 : IC :=
  (IC.ops [{ dst := some 6, op := Op.assign (Operand.const (Value.slice none 0 0)), guard := none }]).seq
  ((IC.ops [{ dst := some 7, op := Op.assign (Operand.const (Value.slice none 0 0)), guard := none }]).seq
    (IC.block 0
      (IC.block 1
          ((IC.ops
                [{ dst := some 12, op := Op.move (Operand.tmp 0), guard := none }, { dst := some 13, op := Op.move (Operand.tmp 1), guard := none },
                  { dst := some 14, op := Op.move (Operand.tmp 2), guard := none },
                  { dst := some 15,
                    op := Op.call { callee := Callee.value (Operand.func 20), args := { toList := [Operand.tmp 12, Operand.tmp 13, Operand.tmp 14] }, argTypes := { toList := [3, 3, 3] } },
                    guard := none },
                  { dst := some 11, op := Op.move (Operand.tmp 15), guard := none }, { dst := some 16, op := Op.extract (Operand.tmp 11) 0, guard := none },
                  { dst := some 17, op := Op.extract (Operand.tmp 11) 1, guard := none }, { dst := some 18, op := Op.extract (Operand.tmp 11) 2, guard := none },
                  { dst := some 8, op := Op.assign (Operand.tmp 16), guard := none }, { dst := some 9, op := Op.assign (Operand.tmp 17), guard := none },
                  { dst := some 10, op := Op.assign (Operand.tmp 18), guard := none }]).seq
            (((IC.ops [{ dst := some 19, op := Op.move (Operand.tmp 10), guard := none }, { dst := some 20, op := Op.unOp UnOp.not 4 (Operand.tmp 19), guard := none }]).seq
                  (IC.cond (Operand.tmp 20) ((IC.ops [{ dst := some 21, op := Op.move (Operand.tmp 7), guard := none }, { dst := some 6, op := Op.assign (Operand.tmp 21), guard := none }]).seq IC.ret)
                    IC.skip)).seq
              ((IC.ops
                    [{ dst := some 22, op := Op.move (Operand.tmp 7), guard := none }, { dst := some 23, op := Op.move (Operand.tmp 8), guard := none },
                      { dst := some 24, op := Op.buildSlice 24 1 { toList := [(0, Operand.tmp 23)] }, guard := none },
                      { dst := some 25, op := Op.call { callee := Callee.builtin Builtin.append, args := { toList := [Operand.tmp 22, Operand.tmp 24] }, argTypes := { toList := [24, 24] } },
                        guard := none },
                      { dst := some 7, op := Op.assign (Operand.tmp 25), guard := none }]).seq
                ((IC.ops
                      [{ dst := some 26, op := Op.move (Operand.tmp 0), guard := none }, { dst := some 27, op := Op.move (Operand.tmp 8), guard := none },
                        { dst := some 28, op := Op.call { callee := Callee.value (Operand.func 37), args := { toList := [Operand.tmp 26, Operand.tmp 27] }, argTypes := { toList := [3, 3] } },
                          guard := none },
                        { dst := some 0, op := Op.assign (Operand.tmp 28), guard := none }]).seq
                  ((IC.ops [{ dst := some 29, op := Op.move (Operand.tmp 8), guard := none }, { dst := some 1, op := Op.assign (Operand.tmp 29), guard := none }]).seq
                    (IC.ops [{ dst := some 30, op := Op.move (Operand.tmp 9), guard := none }, { dst := some 2, op := Op.assign (Operand.tmp 30), guard := none }]))))))).loop))
theorem ic23_eq : Try.f23.body.map comp = some ic23 := by kernel_rfl
theorem ic23_ok : Try.f23.body.map (okC Try.f23.ntmps) = some true := by kernel_rfl
theorem ic23_nm : (Try.f23.name != "runtime.NumGoroutine") = true := by kernel_rfl
@[simp] theorem ic23_n : Try.f23.ntmps = 31 := by kernel_rfl
@[simp] theorem ic23_r : Try.f23.results.toList = [ResultVar.tmp 6] := by kernel_rfl

def ic24 : IC :=
  (IC.ops [{ dst := some 2, op := Op.assign (Operand.const (Value.int IntKind.i64 (Int.ofNat 0))), guard := none }]).seq
  ((IC.ops [{ dst := some 3, op := Op.assign (Operand.const (Value.int IntKind.i64 (Int.ofNat 0))), guard := none }]).seq
    (((IC.ops
              [{ dst := some 5, op := Op.move (Operand.tmp 0), guard := none },
                { dst := some 6, op := Op.call { callee := Callee.builtin Builtin.len, args := { toList := [Operand.tmp 5] }, argTypes := { toList := [24] } }, guard := none },
                { dst := some 7, op := Op.move (Operand.const (Value.int IntKind.i64 (Int.ofNat 0))), guard := none }]).seq
          (IC.block 0
            ((IC.ops [{ dst := some 8, op := Op.binOp BinOp.lss 3 (Operand.tmp 7) (Operand.tmp 6) 3, guard := none }]).seq
                ((IC.cond (Operand.tmp 8) IC.skip (IC.exit 0)).seq
                  ((IC.block 1
                        ((IC.ops [{ dst := some 9, op := Op.move (Operand.tmp 7), guard := none }, { dst := some 4, op := Op.assign (Operand.tmp 9), guard := none }]).seq
                          (IC.ops
                            [{ dst := some 10, op := Op.move (Operand.tmp 3), guard := none }, { dst := some 11, op := Op.move (Operand.tmp 0), guard := none },
                              { dst := some 12, op := Op.move (Operand.tmp 4), guard := none }, { dst := some 13, op := Op.indexAddr 24 (Operand.tmp 11) (Operand.tmp 12), guard := none },
                              { dst := some 14, op := Op.load 3 (Operand.tmp 13), guard := none },
                              { dst := some 15, op := Op.binOp BinOp.shl 3 (Operand.const (Value.int IntKind.i64 (Int.ofNat 1))) (Operand.tmp 14) 3, guard := none },
                              { dst := some 16, op := Op.binOp BinOp.add 3 (Operand.tmp 10) (Operand.tmp 15) 3, guard := none },
                              { dst := some 3, op := Op.assign (Operand.tmp 16), guard := none }]))).seq
                    (IC.ops
                      [{ dst := some 17, op := Op.binOp BinOp.add 3 (Operand.tmp 7) (Operand.const (Value.int IntKind.i64 (Int.ofNat 1))) 3, guard := none },
                        { dst := some 7, op := Op.move (Operand.tmp 17), guard := none }])))).loop)).seq
      ((IC.ops [{ dst := some 18, op := Op.move (Operand.tmp 3), guard := none }, { dst := some 2, op := Op.assign (Operand.tmp 18), guard := none }]).seq IC.ret)))
theorem ic24_eq : Try.f24.body.map comp = some ic24 := by kernel_rfl
theorem ic24_ok : Try.f24.body.map (okC Try.f24.ntmps) = some true := by kernel_rfl
theorem ic24_nm : (Try.f24.name != "runtime.NumGoroutine") = true := by kernel_rfl
@[simp] theorem ic24_n : Try.f24.ntmps = 19 := by kernel_rfl
@[simp] theorem ic24_r : Try.f24.results.toList = [ResultVar.tmp 2] := by kernel_rfl

def ic25 : IC :=
  (IC.ops [{ dst := some 2, op := Op.assign (Operand.const (Value.slice none 0 0)), guard := none }]).seq
  ((IC.ops [{ dst := some 3, op := Op.assign (Operand.const (Value.slice none 0 0)), guard := none }]).seq
    (((IC.ops [{ dst := some 4, op := Op.assign (Operand.const (Value.int IntKind.i64 (Int.ofNat 0))), guard := none }]).seq
          (IC.block 0
            (((IC.ops
                        [{ dst := some 5, op := Op.move (Operand.tmp 4), guard := none },
                          { dst := some 6, op := Op.binOp BinOp.lss 3 (Operand.tmp 5) (Operand.const (Value.int IntKind.i64 (Int.ofNat 16))) 3, guard := none }]).seq
                    (IC.cond (Operand.tmp 6) IC.skip (IC.exit 0))).seq
                ((IC.block 1
                      ((IC.ops
                            [{ dst := some 9, op := Op.move (Operand.tmp 0), guard := none }, { dst := some 10, op := Op.move (Operand.tmp 4), guard := none },
                              { dst := some 11, op := Op.binOp BinOp.shr 3 (Operand.tmp 9) (Operand.tmp 10) 3, guard := none },
                              { dst := some 12, op := Op.binOp BinOp.rem 3 (Operand.tmp 11) (Operand.const (Value.int IntKind.i64 (Int.ofNat 2))) 3, guard := none },
                              { dst := some 13, op := Op.binOp BinOp.neq 3 (Operand.tmp 12) (Operand.const (Value.int IntKind.i64 (Int.ofNat 0))) 3, guard := none }]).seq
                        (IC.cond (Operand.tmp 13)
                          (IC.ops
                            [{ dst := some 14, op := Op.move (Operand.tmp 3), guard := none }, { dst := some 15, op := Op.move (Operand.tmp 4), guard := none },
                              { dst := some 16, op := Op.buildSlice 24 1 { toList := [(0, Operand.tmp 15)] }, guard := none },
                              { dst := some 17, op := Op.call { callee := Callee.builtin Builtin.append, args := { toList := [Operand.tmp 14, Operand.tmp 16] }, argTypes := { toList := [24, 24] } },
                                guard := none },
                              { dst := some 3, op := Op.assign (Operand.tmp 17), guard := none }])
                          IC.skip))).seq
                  (IC.ops
                    [{ dst := some 7, op := Op.move (Operand.tmp 4), guard := none },
                      { dst := some 8, op := Op.binOp BinOp.add 3 (Operand.tmp 7) (Operand.const (Value.int IntKind.i64 (Int.ofNat 1))) 3, guard := none },
                      { dst := some 4, op := Op.assign (Operand.tmp 8), guard := none }]))).loop)).seq
      ((IC.ops [{ dst := some 18, op := Op.move (Operand.tmp 3), guard := none }, { dst := some 2, op := Op.assign (Operand.tmp 18), guard := none }]).seq IC.ret)))
theorem ic25_eq : Try.f25.body.map comp = some ic25 := by kernel_rfl
theorem ic25_ok : Try.f25.body.map (okC Try.f25.ntmps) = some true := by kernel_rfl
theorem ic25_nm : (Try.f25.name != "runtime.NumGoroutine") = true := by kernel_rfl
@[simp] theorem ic25_n : Try.f25.ntmps = 19 := by kernel_rfl
@[simp] theorem ic25_r : Try.f25.results.toList = [ResultVar.tmp 2] := by kernel_rfl

def ic26 : IC :=
  (IC.ops [{ dst := some 4, op := Op.box 42 (Operand.tmp 1), guard := none }, { dst := some 6, op := Op.assign (Operand.const (Value.int IntKind.i64 (Int.ofNat 0))), guard := none }]).seq
  ((IC.ops
        [{ dst := some 7, op := Op.move (Operand.tmp 0), guard := none },
          { dst := some 8, op := Op.binOp BinOp.and 23 (Operand.tmp 7) (Operand.const (Value.int IntKind.i64 (Int.ofNat 65535))) 23, guard := none },
          { dst := some 9, op := Op.move (Operand.tmp 2), guard := none }, { dst := some 10, op := Op.load 42 (Operand.tmp 4), guard := none },
          { dst := some 11, op := Op.call { callee := Callee.value (Operand.func 27), args := { toList := [Operand.tmp 10] }, argTypes := { toList := [42] } }, guard := none },
          { dst := some 12, op := Op.binOp BinOp.and 23 (Operand.tmp 9) (Operand.tmp 11) 23, guard := none },
          { dst := some 13, op := Op.binOp BinOp.or 23 (Operand.tmp 8) (Operand.tmp 12) 23, guard := none }, { dst := some 6, op := Op.assign (Operand.tmp 13), guard := none }]).seq
    IC.ret)
theorem ic26_eq : Try.f26.body.map comp = some ic26 := by kernel_rfl
theorem ic26_ok : Try.f26.body.map (okC Try.f26.ntmps) = some true := by kernel_rfl
theorem ic26_nm : (Try.f26.name != "runtime.NumGoroutine") = true := by kernel_rfl
@[simp] theorem ic26_n : Try.f26.ntmps = 14 := by kernel_rfl
@[simp] theorem ic26_r : Try.f26.results.toList = [ResultVar.tmp 6] := by kernel_rfl

def ic27 : IC :=
  (IC.ops [{ dst := some 1, op := Op.box 42 (Operand.tmp 0), guard := none }, { dst := some 2, op := Op.assign (Operand.const (Value.int IntKind.i64 (Int.ofNat 0))), guard := none }]).seq
  ((IC.ops
        [{ dst := some 3, op := Op.fieldAddr 42 (Operand.tmp 1) 0, guard := none }, { dst := some 4, op := Op.load 24 (Operand.tmp 3), guard := none },
          { dst := some 5, op := Op.call { callee := Callee.builtin Builtin.len, args := { toList := [Operand.tmp 4] }, argTypes := { toList := [24] } }, guard := none },
          { dst := some 6,
            op := Op.call { callee := Callee.builtin Builtin.min, args := { toList := [Operand.tmp 5, Operand.const (Value.int IntKind.i64 (Int.ofNat 16))] }, argTypes := { toList := [3, 3] } },
            guard := none },
          { dst := some 7, op := Op.binOp BinOp.shl 23 (Operand.const (Value.int IntKind.i64 (Int.ofNat 1))) (Operand.tmp 6) 3, guard := none },
          { dst := some 8, op := Op.binOp BinOp.sub 23 (Operand.tmp 7) (Operand.const (Value.int IntKind.i64 (Int.ofNat 1))) 23, guard := none },
          { dst := some 2, op := Op.assign (Operand.tmp 8), guard := none }]).seq
    IC.ret)
theorem ic27_eq : Try.f27.body.map comp = some ic27 := by kernel_rfl
theorem ic27_ok : Try.f27.body.map (okC Try.f27.ntmps) = some true := by kernel_rfl
theorem ic27_nm : (Try.f27.name != "runtime.NumGoroutine") = true := by kernel_rfl
@[simp] theorem ic27_n : Try.f27.ntmps = 9 := by kernel_rfl
@[simp] theorem ic27_r : Try.f27.results.toList = [ResultVar.tmp 2] := by kernel_rfl

def ic28 : IC :=
  (IC.ops [{ dst := some 2, op := Op.assign (Operand.const (Value.slice none 0 0)), guard := none }]).seq
  ((IC.ops
        [{ dst := some 3, op := Op.move (Operand.tmp 0), guard := none },
          { dst := some 4, op := Op.call { callee := Callee.value (Operand.func 38), args := { toList := [Operand.const (Value.slice none 0 0), Operand.tmp 3] }, argTypes := { toList := [24, 47] } },
            guard := none },
          { dst := some 2, op := Op.assign (Operand.tmp 4), guard := none }]).seq
    IC.ret)
theorem ic28_eq : Try.f28.body.map comp = some ic28 := by kernel_rfl
theorem ic28_ok : Try.f28.body.map (okC Try.f28.ntmps) = some true := by kernel_rfl
theorem ic28_nm : (Try.f28.name != "runtime.NumGoroutine") = true := by kernel_rfl
@[simp] theorem ic28_n : Try.f28.ntmps = 5 := by kernel_rfl
@[simp] theorem ic28_r : Try.f28.results.toList = [ResultVar.tmp 2] := by kernel_rfl

def ic29 : IC :=
  (IC.ops [{ dst := some 1, op := Op.box 23 (Operand.tmp 0), guard := none }, { dst := some 2, op := Op.assign (Operand.const Value.nilFunc), guard := none }]).seq
  ((IC.ops [{ dst := some 3, op := Op.makeFunc (Fn.func 39) { toList := [] } { toList := [Operand.tmp 1] }, guard := none }, { dst := some 2, op := Op.assign (Operand.tmp 3), guard := none }]).seq
    IC.ret)
theorem ic29_eq : Try.f29.body.map comp = some ic29 := by kernel_rfl
theorem ic29_ok : Try.f29.body.map (okC Try.f29.ntmps) = some true := by kernel_rfl
theorem ic29_nm : (Try.f29.name != "runtime.NumGoroutine") = true := by kernel_rfl
@[simp] theorem ic29_n : Try.f29.ntmps = 4 := by kernel_rfl
@[simp] theorem ic29_r : Try.f29.results.toList = [ResultVar.tmp 2] := by kernel_rfl

def ic30 : IC :=
  (IC.ops [{ dst := some 2, op := Op.assign (Operand.const (Value.bool false)), guard := none }]).seq
  ((IC.ops
        [{ dst := some 3, op := Op.move (Operand.tmp 0), guard := none },
          { dst := some 4, op := Op.binOp BinOp.geq 3 (Operand.tmp 3) (Operand.const (Value.int IntKind.i64 (Int.ofNat 0))) 3, guard := none },
          { dst := some 5, op := Op.move (Operand.tmp 4), guard := none }, { dst := some 6, op := Op.move (Operand.tmp 0), guard := some (some 5, true) },
          { dst := some 7, op := Op.binOp BinOp.lss 3 (Operand.tmp 6) (Operand.const (Value.int IntKind.i64 (Int.ofNat 16))) 3, guard := some (some 5, true) },
          { dst := some 8, op := Op.pick (Operand.tmp 5) (Operand.tmp 7) (Operand.const (Value.bool false)), guard := none }, { dst := some 2, op := Op.assign (Operand.tmp 8), guard := none }]).seq
    IC.ret)
theorem ic30_eq : Try.f30.body.map comp = some ic30 := by kernel_rfl
theorem ic30_ok : Try.f30.body.map (okC Try.f30.ntmps) = some true := by kernel_rfl
theorem ic30_nm : (Try.f30.name != "runtime.NumGoroutine") = true := by kernel_rfl
@[simp] theorem ic30_n : Try.f30.ntmps = 9 := by kernel_rfl
@[simp] theorem ic30_r : Try.f30.results.toList = [ResultVar.tmp 2] := by kernel_rfl

def ic31 : IC :=
  (IC.ops [{ dst := some 2, op := Op.assign (Operand.const (Value.bool false)), guard := none }]).seq
  ((IC.ops
        [{ dst := some 3, op := Op.move (Operand.tmp 0), guard := none },
          { dst := some 4, op := Op.binOp BinOp.geq 3 (Operand.tmp 3) (Operand.const (Value.int IntKind.i64 (Int.negSucc 2147483647))) 3, guard := none },
          { dst := some 5, op := Op.move (Operand.tmp 4), guard := none }, { dst := some 6, op := Op.move (Operand.tmp 0), guard := some (some 5, true) },
          { dst := some 7, op := Op.binOp BinOp.leq 3 (Operand.tmp 6) (Operand.const (Value.int IntKind.i64 (Int.ofNat 2147483648))) 3, guard := some (some 5, true) },
          { dst := some 8, op := Op.pick (Operand.tmp 5) (Operand.tmp 7) (Operand.const (Value.bool false)), guard := none }, { dst := some 2, op := Op.assign (Operand.tmp 8), guard := none }]).seq
    IC.ret)
theorem ic31_eq : Try.f31.body.map comp = some ic31 := by kernel_rfl
theorem ic31_ok : Try.f31.body.map (okC Try.f31.ntmps) = some true := by kernel_rfl
theorem ic31_nm : (Try.f31.name != "runtime.NumGoroutine") = true := by kernel_rfl
@[simp] theorem ic31_n : Try.f31.ntmps = 9 := by kernel_rfl
@[simp] theorem ic31_r : Try.f31.results.toList = [ResultVar.tmp 2] := by kernel_rfl

def ic32 : IC :=
  (IC.ops [{ dst := some 2, op := Op.assign (Operand.const (Value.int IntKind.i64 (Int.ofNat 0))), guard := none }]).seq
  (((IC.ops
            [{ dst := some 3, op := Op.move (Operand.tmp 0), guard := none },
              { dst := some 4, op := Op.binOp BinOp.neq 3 (Operand.tmp 3) (Operand.const (Value.int IntKind.i64 (Int.ofNat 1))) 3, guard := none },
              { dst := some 5, op := Op.move (Operand.tmp 4), guard := none }, { dst := some 6, op := Op.move (Operand.tmp 0), guard := some (some 5, true) },
              { dst := some 7, op := Op.binOp BinOp.neq 3 (Operand.tmp 6) (Operand.const (Value.int IntKind.i64 (Int.negSucc 0))) 3, guard := some (some 5, true) },
              { dst := some 8, op := Op.pick (Operand.tmp 5) (Operand.tmp 7) (Operand.const (Value.bool false)), guard := none }]).seq
        (IC.cond (Operand.tmp 8) ((IC.ops [{ dst := some 2, op := Op.assign (Operand.const (Value.int IntKind.i64 (Int.ofNat 0))), guard := none }]).seq IC.ret) IC.skip)).seq
    ((IC.ops [{ dst := some 9, op := Op.move (Operand.tmp 0), guard := none }, { dst := some 2, op := Op.assign (Operand.tmp 9), guard := none }]).seq IC.ret))
theorem ic32_eq : Try.f32.body.map comp = some ic32 := by kernel_rfl
theorem ic32_ok : Try.f32.body.map (okC Try.f32.ntmps) = some true := by kernel_rfl
theorem ic32_nm : (Try.f32.name != "runtime.NumGoroutine") = true := by kernel_rfl
@[simp] theorem ic32_n : Try.f32.ntmps = 10 := by kernel_rfl
@[simp] theorem ic32_r : Try.f32.results.toList = [ResultVar.tmp 2] := by kernel_rfl

def ic33 : IC :=
  (IC.ops [{ dst := some 6, op := Op.assign (Operand.const (Value.slice none 0 0)), guard := none }]).seq
  ((IC.ops [{ dst := some 7, op := Op.assign (Operand.const (Value.slice none 0 0)), guard := none }]).seq
    (((IC.ops
              [{ dst := some 12, op := Op.move (Operand.tmp 0), guard := none },
                { dst := some 13, op := Op.call { callee := Callee.value (Operand.func 12), args := { toList := [Operand.tmp 12] }, argTypes := { toList := [23] } }, guard := none },
                { dst := some 14, op := Op.call { callee := Callee.builtin Builtin.len, args := { toList := [Operand.tmp 13] }, argTypes := { toList := [24] } }, guard := none },
                { dst := some 15, op := Op.move (Operand.const (Value.int IntKind.i64 (Int.ofNat 0))), guard := none }]).seq
          (IC.block 0
            ((IC.ops [{ dst := some 16, op := Op.binOp BinOp.lss 3 (Operand.tmp 15) (Operand.tmp 14) 3, guard := none }]).seq
                ((IC.cond (Operand.tmp 16) IC.skip (IC.exit 0)).seq
                  ((IC.block 1
                        ((IC.ops
                              [{ dst := some 17, op := Op.indexAddr 24 (Operand.tmp 13) (Operand.tmp 15), guard := none }, { dst := some 18, op := Op.load 3 (Operand.tmp 17), guard := none },
                                { dst := some 9, op := Op.assign (Operand.tmp 18), guard := none }]).seq
                          ((IC.ops
                                [{ dst := some 19, op := Op.move (Operand.tmp 9), guard := none }, { dst := some 20, op := Op.move (Operand.tmp 1), guard := none },
                                  { dst := some 21, op := Op.binOp BinOp.sub 3 (Operand.tmp 19) (Operand.tmp 20) 3, guard := none }, { dst := some 22, op := Op.move (Operand.tmp 2), guard := none },
                                  { dst := some 23, op := Op.binOp BinOp.mul 3 (Operand.tmp 21) (Operand.tmp 22) 3, guard := none },
                                  { dst := some 24, op := Op.binOp BinOp.gtr 3 (Operand.tmp 23) (Operand.const (Value.int IntKind.i64 (Int.ofNat 0))) 3, guard := none }]).seq
                            (IC.cond (Operand.tmp 24)
                              (IC.ops
                                [{ dst := some 25, op := Op.move (Operand.tmp 7), guard := none }, { dst := some 26, op := Op.move (Operand.tmp 9), guard := none },
                                  { dst := some 27, op := Op.buildSlice 24 1 { toList := [(0, Operand.tmp 26)] }, guard := none },
                                  { dst := some 28,
                                    op := Op.call { callee := Callee.builtin Builtin.append, args := { toList := [Operand.tmp 25, Operand.tmp 27] }, argTypes := { toList := [24, 24] } },
                                    guard := none },
                                  { dst := some 7, op := Op.assign (Operand.tmp 28), guard := none }])
                              IC.skip)))).seq
                    (IC.ops
                      [{ dst := some 29, op := Op.binOp BinOp.add 3 (Operand.tmp 15) (Operand.const (Value.int IntKind.i64 (Int.ofNat 1))) 3, guard := none },
                        { dst := some 15, op := Op.move (Operand.tmp 29), guard := none }])))).loop)).seq
      (((IC.ops
                [{ dst := some 31, op := Op.move (Operand.tmp 1), guard := none }, { dst := some 32, op := Op.move (Operand.tmp 7), guard := none },
                  { dst := some 33, op := Op.call { callee := Callee.value (Operand.func 34), args := { toList := [Operand.tmp 31, Operand.tmp 32] }, argTypes := { toList := [3, 24] } },
                    guard := none },
                  { dst := some 30, op := Op.move (Operand.tmp 33), guard := none }, { dst := some 34, op := Op.extract (Operand.tmp 30) 0, guard := none },
                  { dst := some 35, op := Op.extract (Operand.tmp 30) 1, guard := none }, { dst := some 10, op := Op.assign (Operand.tmp 34), guard := none },
                  { dst := some 11, op := Op.assign (Operand.tmp 35), guard := none }]).seq
            ((IC.ops [{ dst := some 36, op := Op.move (Operand.tmp 11), guard := none }]).seq
              (IC.cond (Operand.tmp 36)
                ((IC.ops
                      [{ dst := some 37, op := Op.move (Operand.tmp 10), guard := none }, { dst := some 38, op := Op.buildSlice 24 1 { toList := [(0, Operand.tmp 37)] }, guard := none },
                        { dst := some 6, op := Op.assign (Operand.tmp 38), guard := none }]).seq
                  IC.ret)
                IC.skip))).seq
        ((IC.ops [{ dst := some 6, op := Op.assign (Operand.const (Value.slice none 0 0)), guard := none }]).seq IC.ret))))
theorem ic33_eq : Try.f33.body.map comp = some ic33 := by kernel_rfl
theorem ic33_ok : Try.f33.body.map (okC Try.f33.ntmps) = some true := by kernel_rfl
theorem ic33_nm : (Try.f33.name != "runtime.NumGoroutine") = true := by kernel_rfl
@[simp] theorem ic33_n : Try.f33.ntmps = 39 := by kernel_rfl
@[simp] theorem ic33_r : Try.f33.results.toList = [ResultVar.tmp 6] := by kernel_rfl

def ic34 : IC :=
  (IC.ops
      [{ dst := some 4, op := Op.assign (Operand.const (Value.int IntKind.i64 (Int.ofNat 0))), guard := none },
        { dst := some 5, op := Op.assign (Operand.const (Value.bool false)), guard := none }]).seq
  ((IC.ops [{ dst := some 6, op := Op.assign (Operand.const (Value.int IntKind.i64 (Int.ofNat 0))), guard := none }]).seq
    (((IC.ops
              [{ dst := some 9, op := Op.move (Operand.tmp 1), guard := none },
                { dst := some 10, op := Op.call { callee := Callee.builtin Builtin.len, args := { toList := [Operand.tmp 9] }, argTypes := { toList := [24] } }, guard := none },
                { dst := some 11, op := Op.move (Operand.const (Value.int IntKind.i64 (Int.ofNat 0))), guard := none }]).seq
          (IC.block 0
            ((IC.ops [{ dst := some 12, op := Op.binOp BinOp.lss 3 (Operand.tmp 11) (Operand.tmp 10) 3, guard := none }]).seq
                ((IC.cond (Operand.tmp 12) IC.skip (IC.exit 0)).seq
                  ((IC.block 1
                        ((IC.ops
                              [{ dst := some 13, op := Op.move (Operand.tmp 11), guard := none }, { dst := some 14, op := Op.indexAddr 24 (Operand.tmp 9) (Operand.tmp 11), guard := none },
                                { dst := some 15, op := Op.load 3 (Operand.tmp 14), guard := none }, { dst := some 7, op := Op.assign (Operand.tmp 13), guard := none },
                                { dst := some 8, op := Op.assign (Operand.tmp 15), guard := none }]).seq
                          ((IC.ops
                                [{ dst := some 16, op := Op.move (Operand.tmp 7), guard := none },
                                  { dst := some 17, op := Op.binOp BinOp.eql 3 (Operand.tmp 16) (Operand.const (Value.int IntKind.i64 (Int.ofNat 0))) 3, guard := none },
                                  { dst := some 18, op := Op.move (Operand.tmp 17), guard := none }, { dst := some 19, op := Op.move (Operand.tmp 8), guard := some (some 18, false) },
                                  { dst := some 20, op := Op.move (Operand.tmp 0), guard := some (some 18, false) },
                                  { dst := some 21,
                                    op := Op.call { callee := Callee.value (Operand.func 40), args := { toList := [Operand.tmp 19, Operand.tmp 20] }, argTypes := { toList := [3, 3] } },
                                    guard := some (some 18, false) },
                                  { dst := some 22, op := Op.move (Operand.tmp 6), guard := some (some 18, false) }, { dst := some 23, op := Op.move (Operand.tmp 0), guard := some (some 18, false) },
                                  { dst := some 24,
                                    op := Op.call { callee := Callee.value (Operand.func 40), args := { toList := [Operand.tmp 22, Operand.tmp 23] }, argTypes := { toList := [3, 3] } },
                                    guard := some (some 18, false) },
                                  { dst := some 25, op := Op.binOp BinOp.lss 3 (Operand.tmp 21) (Operand.tmp 24) 3, guard := some (some 18, false) },
                                  { dst := some 26, op := Op.pick (Operand.tmp 18) (Operand.const (Value.bool true)) (Operand.tmp 25), guard := none }]).seq
                            (IC.cond (Operand.tmp 26) (IC.ops [{ dst := some 27, op := Op.move (Operand.tmp 8), guard := none }, { dst := some 6, op := Op.assign (Operand.tmp 27), guard := none }])
                              IC.skip)))).seq
                    (IC.ops
                      [{ dst := some 28, op := Op.binOp BinOp.add 3 (Operand.tmp 11) (Operand.const (Value.int IntKind.i64 (Int.ofNat 1))) 3, guard := none },
                        { dst := some 11, op := Op.move (Operand.tmp 28), guard := none }])))).loop)).seq
      ((IC.ops
            [{ dst := some 29, op := Op.move (Operand.tmp 6), guard := none }, { dst := some 30, op := Op.move (Operand.tmp 1), guard := none },
              { dst := some 31, op := Op.call { callee := Callee.builtin Builtin.len, args := { toList := [Operand.tmp 30] }, argTypes := { toList := [24] } }, guard := none },
              { dst := some 32, op := Op.binOp BinOp.gtr 3 (Operand.tmp 31) (Operand.const (Value.int IntKind.i64 (Int.ofNat 0))) 3, guard := none },
              { dst := some 4, op := Op.assign (Operand.tmp 29), guard := none }, { dst := some 5, op := Op.assign (Operand.tmp 32), guard := none }]).seq
        IC.ret)))
theorem ic34_eq : Try.f34.body.map comp = some ic34 := by kernel_rfl
theorem ic34_ok : Try.f34.body.map (okC Try.f34.ntmps) = some true := by kernel_rfl
theorem ic34_nm : (Try.f34.name != "runtime.NumGoroutine") = true := by kernel_rfl
@[simp] theorem ic34_n : Try.f34.ntmps = 33 := by kernel_rfl
@[simp] theorem ic34_r : Try.f34.results.toList = [ResultVar.tmp 4, ResultVar.tmp 5] := by kernel_rfl

def ic35 : IC :=
  (IC.ops [{ dst := some 4, op := Op.assign (Operand.const (Value.bool false)), guard := none }]).seq
  (((IC.ops
            [{ dst := some 6, op := Op.move (Operand.tmp 0), guard := none },
              { dst := some 7, op := Op.call { callee := Callee.builtin Builtin.len, args := { toList := [Operand.tmp 6] }, argTypes := { toList := [24] } }, guard := none },
              { dst := some 8, op := Op.move (Operand.const (Value.int IntKind.i64 (Int.ofNat 0))), guard := none }]).seq
        (IC.block 0
          ((IC.ops [{ dst := some 9, op := Op.binOp BinOp.lss 3 (Operand.tmp 8) (Operand.tmp 7) 3, guard := none }]).seq
              ((IC.cond (Operand.tmp 9) IC.skip (IC.exit 0)).seq
                ((IC.block 1
                      ((IC.ops [{ dst := some 10, op := Op.move (Operand.tmp 8), guard := none }, { dst := some 5, op := Op.assign (Operand.tmp 10), guard := none }]).seq
                        ((IC.ops
                              [{ dst := some 11, op := Op.move (Operand.tmp 0), guard := none }, { dst := some 12, op := Op.move (Operand.tmp 5), guard := none },
                                { dst := some 13, op := Op.indexAddr 24 (Operand.tmp 11) (Operand.tmp 12), guard := none }, { dst := some 14, op := Op.load 3 (Operand.tmp 13), guard := none },
                                { dst := some 15, op := Op.move (Operand.tmp 1), guard := none },
                                { dst := some 16, op := Op.binOp BinOp.eql 3 (Operand.tmp 14) (Operand.tmp 15) 3, guard := none }]).seq
                          (IC.cond (Operand.tmp 16) ((IC.ops [{ dst := some 4, op := Op.assign (Operand.const (Value.bool true)), guard := none }]).seq IC.ret) IC.skip)))).seq
                  (IC.ops
                    [{ dst := some 17, op := Op.binOp BinOp.add 3 (Operand.tmp 8) (Operand.const (Value.int IntKind.i64 (Int.ofNat 1))) 3, guard := none },
                      { dst := some 8, op := Op.move (Operand.tmp 17), guard := none }])))).loop)).seq
    ((IC.ops [{ dst := some 4, op := Op.assign (Operand.const (Value.bool false)), guard := none }]).seq IC.ret))
theorem ic35_eq : Try.f35.body.map comp = some ic35 := by kernel_rfl
theorem ic35_ok : Try.f35.body.map (okC Try.f35.ntmps) = some true := by kernel_rfl
theorem ic35_nm : (Try.f35.name != "runtime.NumGoroutine") = true := by kernel_rfl
@[simp] theorem ic35_n : Try.f35.ntmps = 18 := by kernel_rfl
@[simp] theorem ic35_r : Try.f35.results.toList = [ResultVar.tmp 4] := by kernel_rfl

def ic36 : IC :=
  (IC.ops [{ dst := some 6, op := Op.assign (Operand.const (Value.int IntKind.i64 (Int.ofNat 0))), guard := none }]).seq
  ((IC.ops [{ dst := some 7, op := Op.assign (Operand.const (Value.int IntKind.i64 (Int.negSucc 0))), guard := none }]).seq
    (((IC.ops
              [{ dst := some 9, op := Op.move (Operand.tmp 0), guard := none },
                { dst := some 10, op := Op.call { callee := Callee.builtin Builtin.len, args := { toList := [Operand.tmp 9] }, argTypes := { toList := [24] } }, guard := none },
                { dst := some 11, op := Op.move (Operand.const (Value.int IntKind.i64 (Int.ofNat 0))), guard := none }]).seq
          (IC.block 0
            ((IC.ops [{ dst := some 12, op := Op.binOp BinOp.lss 3 (Operand.tmp 11) (Operand.tmp 10) 3, guard := none }]).seq
                ((IC.cond (Operand.tmp 12) IC.skip (IC.exit 0)).seq
                  ((IC.block 1
                        ((IC.ops [{ dst := some 13, op := Op.move (Operand.tmp 11), guard := none }, { dst := some 8, op := Op.assign (Operand.tmp 13), guard := none }]).seq
                          ((IC.ops
                                [{ dst := some 14, op := Op.move (Operand.tmp 2), guard := none },
                                  { dst := some 15, op := Op.binOp BinOp.gtr 3 (Operand.tmp 14) (Operand.const (Value.int IntKind.i64 (Int.ofNat 0))) 3, guard := none },
                                  { dst := some 16, op := Op.move (Operand.tmp 15), guard := none }, { dst := some 17, op := Op.move (Operand.tmp 0), guard := some (some 16, true) },
                                  { dst := some 18, op := Op.move (Operand.tmp 8), guard := some (some 16, true) },
                                  { dst := some 19, op := Op.indexAddr 24 (Operand.tmp 17) (Operand.tmp 18), guard := some (some 16, true) },
                                  { dst := some 20, op := Op.load 3 (Operand.tmp 19), guard := some (some 16, true) }, { dst := some 21, op := Op.move (Operand.tmp 1), guard := some (some 16, true) },
                                  { dst := some 22, op := Op.binOp BinOp.gtr 3 (Operand.tmp 20) (Operand.tmp 21) 3, guard := some (some 16, true) },
                                  { dst := some 23, op := Op.pick (Operand.tmp 16) (Operand.tmp 22) (Operand.const (Value.bool false)), guard := none },
                                  { dst := some 24, op := Op.move (Operand.tmp 23), guard := none }, { dst := some 25, op := Op.move (Operand.tmp 2), guard := some (some 24, false) },
                                  { dst := some 26, op := Op.binOp BinOp.lss 3 (Operand.tmp 25) (Operand.const (Value.int IntKind.i64 (Int.ofNat 0))) 3, guard := some (some 24, false) },
                                  { dst := some 27, op := Op.move (Operand.tmp 26), guard := some (some 24, false) }, { dst := some 28, op := Op.move (Operand.tmp 0), guard := some (some 27, true) },
                                  { dst := some 29, op := Op.move (Operand.tmp 8), guard := some (some 27, true) },
                                  { dst := some 30, op := Op.indexAddr 24 (Operand.tmp 28) (Operand.tmp 29), guard := some (some 27, true) },
                                  { dst := some 31, op := Op.load 3 (Operand.tmp 30), guard := some (some 27, true) }, { dst := some 32, op := Op.move (Operand.tmp 1), guard := some (some 27, true) },
                                  { dst := some 33, op := Op.binOp BinOp.lss 3 (Operand.tmp 31) (Operand.tmp 32) 3, guard := some (some 27, true) },
                                  { dst := some 34, op := Op.pick (Operand.tmp 27) (Operand.tmp 33) (Operand.const (Value.bool false)), guard := some (some 24, false) },
                                  { dst := some 35, op := Op.pick (Operand.tmp 24) (Operand.const (Value.bool true)) (Operand.tmp 34), guard := none },
                                  { dst := some 36, op := Op.move (Operand.tmp 35), guard := none }, { dst := some 37, op := Op.move (Operand.tmp 7), guard := some (some 36, true) },
                                  { dst := some 38, op := Op.binOp BinOp.lss 3 (Operand.tmp 37) (Operand.const (Value.int IntKind.i64 (Int.ofNat 0))) 3, guard := some (some 36, true) },
                                  { dst := some 39, op := Op.move (Operand.tmp 38), guard := some (some 36, true) }, { dst := some 40, op := Op.move (Operand.tmp 2), guard := some (some 39, false) },
                                  { dst := some 41, op := Op.binOp BinOp.gtr 3 (Operand.tmp 40) (Operand.const (Value.int IntKind.i64 (Int.ofNat 0))) 3, guard := some (some 39, false) },
                                  { dst := some 42, op := Op.move (Operand.tmp 41), guard := some (some 39, false) }, { dst := some 43, op := Op.move (Operand.tmp 0), guard := some (some 42, true) },
                                  { dst := some 44, op := Op.move (Operand.tmp 8), guard := some (some 42, true) },
                                  { dst := some 45, op := Op.indexAddr 24 (Operand.tmp 43) (Operand.tmp 44), guard := some (some 42, true) },
                                  { dst := some 46, op := Op.load 3 (Operand.tmp 45), guard := some (some 42, true) }, { dst := some 47, op := Op.move (Operand.tmp 7), guard := some (some 42, true) },
                                  { dst := some 48, op := Op.binOp BinOp.lss 3 (Operand.tmp 46) (Operand.tmp 47) 3, guard := some (some 42, true) },
                                  { dst := some 49, op := Op.pick (Operand.tmp 42) (Operand.tmp 48) (Operand.const (Value.bool false)), guard := some (some 39, false) },
                                  { dst := some 50, op := Op.pick (Operand.tmp 39) (Operand.const (Value.bool true)) (Operand.tmp 49), guard := some (some 36, true) },
                                  { dst := some 51, op := Op.move (Operand.tmp 50), guard := some (some 36, true) }, { dst := some 52, op := Op.move (Operand.tmp 2), guard := some (some 51, false) },
                                  { dst := some 53, op := Op.binOp BinOp.lss 3 (Operand.tmp 52) (Operand.const (Value.int IntKind.i64 (Int.ofNat 0))) 3, guard := some (some 51, false) },
                                  { dst := some 54, op := Op.move (Operand.tmp 53), guard := some (some 51, false) }, { dst := some 55, op := Op.move (Operand.tmp 0), guard := some (some 54, true) },
                                  { dst := some 56, op := Op.move (Operand.tmp 8), guard := some (some 54, true) },
                                  { dst := some 57, op := Op.indexAddr 24 (Operand.tmp 55) (Operand.tmp 56), guard := some (some 54, true) },
                                  { dst := some 58, op := Op.load 3 (Operand.tmp 57), guard := some (some 54, true) }, { dst := some 59, op := Op.move (Operand.tmp 7), guard := some (some 54, true) },
                                  { dst := some 60, op := Op.binOp BinOp.gtr 3 (Operand.tmp 58) (Operand.tmp 59) 3, guard := some (some 54, true) },
                                  { dst := some 61, op := Op.pick (Operand.tmp 54) (Operand.tmp 60) (Operand.const (Value.bool false)), guard := some (some 51, false) },
                                  { dst := some 62, op := Op.pick (Operand.tmp 51) (Operand.const (Value.bool true)) (Operand.tmp 61), guard := some (some 36, true) },
                                  { dst := some 63, op := Op.pick (Operand.tmp 36) (Operand.tmp 62) (Operand.const (Value.bool false)), guard := none }]).seq
                            (IC.cond (Operand.tmp 63)
                              (IC.ops
                                [{ dst := some 64, op := Op.move (Operand.tmp 0), guard := none }, { dst := some 65, op := Op.move (Operand.tmp 8), guard := none },
                                  { dst := some 66, op := Op.indexAddr 24 (Operand.tmp 64) (Operand.tmp 65), guard := none }, { dst := some 67, op := Op.load 3 (Operand.tmp 66), guard := none },
                                  { dst := some 7, op := Op.assign (Operand.tmp 67), guard := none }])
                              IC.skip)))).seq
                    (IC.ops
                      [{ dst := some 68, op := Op.binOp BinOp.add 3 (Operand.tmp 11) (Operand.const (Value.int IntKind.i64 (Int.ofNat 1))) 3, guard := none },
                        { dst := some 11, op := Op.move (Operand.tmp 68), guard := none }])))).loop)).seq
      ((IC.ops [{ dst := some 69, op := Op.move (Operand.tmp 7), guard := none }, { dst := some 6, op := Op.assign (Operand.tmp 69), guard := none }]).seq IC.ret)))
theorem ic36_eq : Try.f36.body.map comp = some ic36 := by kernel_rfl
theorem ic36_ok : Try.f36.body.map (okC Try.f36.ntmps) = some true := by kernel_rfl
theorem ic36_nm : (Try.f36.name != "runtime.NumGoroutine") = true := by kernel_rfl
@[simp] theorem ic36_n : Try.f36.ntmps = 70 := by kernel_rfl
@[simp] theorem ic36_r : Try.f36.results.toList = [ResultVar.tmp 6] := by kernel_rfl

def ic37 : IC :=
  (IC.ops [{ dst := some 4, op := Op.assign (Operand.const (Value.int IntKind.i64 (Int.ofNat 0))), guard := none }]).seq
  ((IC.ops [{ dst := some 5, op := Op.assign (Operand.const (Value.slice none 0 0)), guard := none }]).seq
    ((IC.ops
          [{ dst := some 8, op := Op.move (Operand.tmp 0), guard := none },
            { dst := some 9, op := Op.call { callee := Callee.value (Operand.func 25), args := { toList := [Operand.tmp 8] }, argTypes := { toList := [3] } }, guard := none },
            { dst := some 6, op := Op.assign (Operand.tmp 9), guard := none }]).seq
      (((IC.ops
                [{ dst := some 10, op := Op.move (Operand.tmp 6), guard := none },
                  { dst := some 11, op := Op.call { callee := Callee.builtin Builtin.len, args := { toList := [Operand.tmp 10] }, argTypes := { toList := [24] } }, guard := none },
                  { dst := some 12, op := Op.move (Operand.const (Value.int IntKind.i64 (Int.ofNat 0))), guard := none }]).seq
            (IC.block 0
              ((IC.ops [{ dst := some 13, op := Op.binOp BinOp.lss 3 (Operand.tmp 12) (Operand.tmp 11) 3, guard := none }]).seq
                  ((IC.cond (Operand.tmp 13) IC.skip (IC.exit 0)).seq
                    ((IC.block 1
                          ((IC.ops [{ dst := some 14, op := Op.move (Operand.tmp 12), guard := none }, { dst := some 7, op := Op.assign (Operand.tmp 14), guard := none }]).seq
                            ((IC.ops
                                  [{ dst := some 15, op := Op.move (Operand.tmp 6), guard := none }, { dst := some 16, op := Op.move (Operand.tmp 7), guard := none },
                                    { dst := some 17, op := Op.indexAddr 24 (Operand.tmp 15) (Operand.tmp 16), guard := none }, { dst := some 18, op := Op.load 3 (Operand.tmp 17), guard := none },
                                    { dst := some 19, op := Op.move (Operand.tmp 1), guard := none },
                                    { dst := some 20, op := Op.binOp BinOp.neq 3 (Operand.tmp 18) (Operand.tmp 19) 3, guard := none }]).seq
                              (IC.cond (Operand.tmp 20)
                                (IC.ops
                                  [{ dst := some 21, op := Op.move (Operand.tmp 5), guard := none }, { dst := some 22, op := Op.move (Operand.tmp 6), guard := none },
                                    { dst := some 23, op := Op.move (Operand.tmp 7), guard := none }, { dst := some 24, op := Op.indexAddr 24 (Operand.tmp 22) (Operand.tmp 23), guard := none },
                                    { dst := some 25, op := Op.load 3 (Operand.tmp 24), guard := none },
                                    { dst := some 26, op := Op.buildSlice 24 1 { toList := [(0, Operand.tmp 25)] }, guard := none },
                                    { dst := some 27,
                                      op := Op.call { callee := Callee.builtin Builtin.append, args := { toList := [Operand.tmp 21, Operand.tmp 26] }, argTypes := { toList := [24, 24] } },
                                      guard := none },
                                    { dst := some 5, op := Op.assign (Operand.tmp 27), guard := none }])
                                IC.skip)))).seq
                      (IC.ops
                        [{ dst := some 28, op := Op.binOp BinOp.add 3 (Operand.tmp 12) (Operand.const (Value.int IntKind.i64 (Int.ofNat 1))) 3, guard := none },
                          { dst := some 12, op := Op.move (Operand.tmp 28), guard := none }])))).loop)).seq
        ((IC.ops
              [{ dst := some 29, op := Op.move (Operand.tmp 5), guard := none },
                { dst := some 30, op := Op.call { callee := Callee.value (Operand.func 24), args := { toList := [Operand.tmp 29] }, argTypes := { toList := [24] } }, guard := none },
                { dst := some 4, op := Op.assign (Operand.tmp 30), guard := none }]).seq
          IC.ret))))
theorem ic37_eq : Try.f37.body.map comp = some ic37 := by kernel_rfl
theorem ic37_ok : Try.f37.body.map (okC Try.f37.ntmps) = some true := by kernel_rfl
theorem ic37_nm : (Try.f37.name != "runtime.NumGoroutine") = true := by kernel_rfl
@[simp] theorem ic37_n : Try.f37.ntmps = 31 := by kernel_rfl
@[simp] theorem ic37_r : Try.f37.results.toList = [ResultVar.tmp 4] := by kernel_rfl

def ic38 : IC :=
  (IC.ops [{ dst := some 2, op := Op.box 24 (Operand.tmp 0), guard := none }, { dst := some 4, op := Op.assign (Operand.const (Value.slice none 0 0)), guard := none }]).seq
  (((IC.ops [{ dst := some 6, op := Op.move (Operand.tmp 1), guard := none }]).seq
        (IC.block 0
          (IC.range (Operand.tmp 6) { toList := [7] } (IC.ops [{ dst := some 5, op := Op.assign (Operand.tmp 7), guard := none }])
            (IC.block 1
              (IC.ops
                [{ dst := some 8, op := Op.load 24 (Operand.tmp 2), guard := none }, { dst := some 9, op := Op.move (Operand.tmp 5), guard := none },
                  { dst := some 10, op := Op.buildSlice 24 1 { toList := [(0, Operand.tmp 9)] }, guard := none },
                  { dst := some 11, op := Op.call { callee := Callee.builtin Builtin.append, args := { toList := [Operand.tmp 8, Operand.tmp 10] }, argTypes := { toList := [24, 24] } },
                    guard := none },
                  { dst := none, op := Op.store 24 (Operand.tmp 2) (Operand.tmp 11), guard := none }]))))).seq
    ((IC.ops [{ dst := some 12, op := Op.load 24 (Operand.tmp 2), guard := none }, { dst := some 4, op := Op.assign (Operand.tmp 12), guard := none }]).seq IC.ret))
theorem ic38_eq : Try.f38.body.map comp = some ic38 := by kernel_rfl
theorem ic38_ok : Try.f38.body.map (okC Try.f38.ntmps) = some true := by kernel_rfl
theorem ic38_nm : (Try.f38.name != "runtime.NumGoroutine") = true := by kernel_rfl
@[simp] theorem ic38_n : Try.f38.ntmps = 13 := by kernel_rfl
@[simp] theorem ic38_r : Try.f38.results.toList = [ResultVar.tmp 4] := by kernel_rfl

def ic39 : IC :=
  (IC.ops [{ dst := some 4, op := Op.move (Operand.const (Value.int IntKind.i64 (Int.ofNat 0))), guard := none }]).seq
  (IC.block 0
    ((IC.ops [{ dst := some 5, op := Op.binOp BinOp.lss 3 (Operand.tmp 4) (Operand.const (Value.int IntKind.i64 (Int.ofNat 16))) 3, guard := none }]).seq
        ((IC.cond (Operand.tmp 5) IC.skip (IC.exit 0)).seq
          ((IC.block 1
                ((IC.ops [{ dst := some 6, op := Op.move (Operand.tmp 4), guard := none }, { dst := some 3, op := Op.assign (Operand.tmp 6), guard := none }]).seq
                  ((IC.ops
                        [{ dst := some 7, op := Op.load 23 (Operand.tmp 1), guard := none }, { dst := some 8, op := Op.move (Operand.tmp 3), guard := none },
                          { dst := some 9, op := Op.call { callee := Callee.value (Operand.func 13), args := { toList := [Operand.tmp 7, Operand.tmp 8] }, argTypes := { toList := [23, 3] } },
                            guard := none },
                          { dst := some 10, op := Op.move (Operand.tmp 9), guard := none }, { dst := some 11, op := Op.move (Operand.tmp 0), guard := some (some 10, true) },
                          { dst := some 12, op := Op.move (Operand.tmp 3), guard := some (some 10, true) },
                          { dst := some 13, op := Op.call { callee := Callee.value (Operand.tmp 11), args := { toList := [Operand.tmp 12] }, argTypes := { toList := [3] } },
                            guard := some (some 10, true) },
                          { dst := some 14, op := Op.unOp UnOp.not 4 (Operand.tmp 13), guard := some (some 10, true) },
                          { dst := some 15, op := Op.pick (Operand.tmp 10) (Operand.tmp 14) (Operand.const (Value.bool false)), guard := none }]).seq
                    (IC.cond (Operand.tmp 15) IC.ret IC.skip)))).seq
            (IC.ops
              [{ dst := some 16, op := Op.binOp BinOp.add 3 (Operand.tmp 4) (Operand.const (Value.int IntKind.i64 (Int.ofNat 1))) 3, guard := none },
                { dst := some 4, op := Op.move (Operand.tmp 16), guard := none }])))).loop)
theorem ic39_eq : Try.f39.body.map comp = some ic39 := by kernel_rfl
theorem ic39_ok : Try.f39.body.map (okC Try.f39.ntmps) = some true := by kernel_rfl
theorem ic39_nm : (Try.f39.name != "runtime.NumGoroutine") = true := by kernel_rfl
@[simp] theorem ic39_n : Try.f39.ntmps = 17 := by kernel_rfl
@[simp] theorem ic39_r : Try.f39.results.toList = [] := by kernel_rfl

def ic40 : IC :=
  (IC.ops [{ dst := some 4, op := Op.assign (Operand.const (Value.int IntKind.i64 (Int.ofNat 0))), guard := none }]).seq
  ((IC.ops
        [{ dst := some 5, op := Op.move (Operand.tmp 0), guard := none }, { dst := some 6, op := Op.move (Operand.tmp 1), guard := none },
          { dst := some 7, op := Op.binOp BinOp.sub 3 (Operand.tmp 5) (Operand.tmp 6) 3, guard := none }, { dst := some 8, op := Op.move (Operand.tmp 1), guard := none },
          { dst := some 9, op := Op.move (Operand.tmp 0), guard := none }, { dst := some 10, op := Op.binOp BinOp.sub 3 (Operand.tmp 8) (Operand.tmp 9) 3, guard := none },
          { dst := some 11, op := Op.call { callee := Callee.builtin Builtin.max, args := { toList := [Operand.tmp 7, Operand.tmp 10] }, argTypes := { toList := [3, 3] } }, guard := none },
          { dst := some 4, op := Op.assign (Operand.tmp 11), guard := none }]).seq
    IC.ret)
theorem ic40_eq : Try.f40.body.map comp = some ic40 := by kernel_rfl
theorem ic40_ok : Try.f40.body.map (okC Try.f40.ntmps) = some true := by kernel_rfl
theorem ic40_nm : (Try.f40.name != "runtime.NumGoroutine") = true := by kernel_rfl
@[simp] theorem ic40_n : Try.f40.ntmps = 12 := by kernel_rfl
@[simp] theorem ic40_r : Try.f40.results.toList = [ResultVar.tmp 4] := by kernel_rfl


end Go.Proofs.Ytofdhldillmbdaa
