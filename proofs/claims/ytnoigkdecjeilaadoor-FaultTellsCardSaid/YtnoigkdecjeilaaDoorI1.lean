/- Contracts of functions of the seat's program, and what follows of them: I1. Conditions are in each statement. -/
import Derived.Test.YtnoigkdecjeilaaDoorRows
import Derived.Test.YtnoigkdecjeilaaDoorV3
import Derived.Test.YtnoigkdecjeilaaDoorLt
set_option linter.unusedSimpArgs false
set_option linter.unusedVariables false
namespace Go.Proofs.YtnoigkdecjeilaaDoor
open Go Go.Proofs Go.Vm

def ic3 : IC :=
  (IC.ops [{ dst := some 8, op := Op.assign (Operand.const (Value.bool false)), guard := none }]).seq
  (((IC.ops
            [{ dst := some 15, op := Op.call { callee := Callee.value (Operand.func 9), args := { toList := [] }, argTypes := { toList := [] } }, guard := none },
              { dst := some 16, op := Op.unOp UnOp.not 4 (Operand.tmp 15), guard := none }, { dst := some 17, op := Op.move (Operand.tmp 16), guard := none },
              { dst := some 18, op := Op.move (Operand.tmp 2), guard := some (some 17, false) },
              { dst := some 19, op := Op.call { callee := Callee.value (Operand.func 10), args := { toList := [Operand.tmp 18] }, argTypes := { toList := [23] } }, guard := some (some 17, false) },
              { dst := some 20, op := Op.unOp UnOp.not 4 (Operand.tmp 19), guard := some (some 17, false) },
              { dst := some 21, op := Op.pick (Operand.tmp 17) (Operand.const (Value.bool true)) (Operand.tmp 20), guard := none }]).seq
        (IC.cond (Operand.tmp 21)
          ((IC.ops
                [{ dst := some 22, op := Op.call { callee := Callee.value (Operand.func 9), args := { toList := [] }, argTypes := { toList := [] } }, guard := none },
                  { dst := some 8, op := Op.assign (Operand.tmp 22), guard := none }]).seq
            IC.ret)
          IC.skip)).seq
    ((IC.ops
          [{ dst := some 23, op := Op.move (Operand.tmp 0), guard := none }, { dst := some 24, op := Op.move (Operand.tmp 1), guard := none },
            { dst := some 25, op := Op.move (Operand.tmp 2), guard := none },
            { dst := some 26, op := Op.call { callee := Callee.value (Operand.func 11), args := { toList := [Operand.tmp 23, Operand.tmp 24, Operand.tmp 25] }, argTypes := { toList := [22, 3, 23] } },
              guard := none },
            { dst := some 27, op := Op.move (Operand.tmp 0), guard := none }, { dst := some 28, op := Op.move (Operand.tmp 1), guard := none },
            { dst := some 29, op := Op.move (Operand.tmp 2), guard := none },
            { dst := some 30, op := Op.call { callee := Callee.value (Operand.func 12), args := { toList := [Operand.tmp 27, Operand.tmp 28, Operand.tmp 29] }, argTypes := { toList := [22, 3, 23] } },
              guard := none },
            { dst := some 10, op := Op.alloc 32, guard := none }, { dst := some 9, op := Op.assign (Operand.tmp 26), guard := none },
            { dst := none, op := Op.store 32 (Operand.tmp 10) (Operand.tmp 30), guard := none }]).seq
      ((IC.ops
            [{ dst := some 32, op := Op.move (Operand.tmp 9), guard := none },
              { dst := some 33, op := Op.call { callee := Callee.value (Operand.func 13), args := { toList := [Operand.tmp 32] }, argTypes := { toList := [27] } }, guard := none },
              { dst := some 31, op := Op.move (Operand.tmp 33), guard := none }, { dst := some 34, op := Op.extract (Operand.tmp 31) 0, guard := none },
              { dst := some 35, op := Op.extract (Operand.tmp 31) 1, guard := none }, { dst := some 11, op := Op.alloc 30, guard := none },
              { dst := none, op := Op.store 30 (Operand.tmp 11) (Operand.tmp 34), guard := none }, { dst := some 12, op := Op.assign (Operand.tmp 35), guard := none }]).seq
        (((IC.opsD
                  [{ dst := some 36, op := Op.move (Operand.tmp 9), guard := none },
                    { dst := some 37, op := Op.binOp BinOp.neq 27 (Operand.tmp 36) (Operand.const Value.nilIface) 27, guard := none, bef := [0] },
                    { dst := some 38, op := Op.fieldAddr 32 (Operand.tmp 10) 0, guard := none }, { dst := some 39, op := Op.load 4 (Operand.tmp 38), guard := none, bef := [2] },
                    { dst := some 40, op := Op.binOp BinOp.neq 4 (Operand.tmp 37) (Operand.tmp 39) 4, guard := none, bef := [1, 0, 3, 2] },
                    { dst := some 41, op := Op.move (Operand.tmp 40), guard := none, bef := [4, 1, 0, 3, 2] },
                    { dst := some 42, op := Op.move (Operand.tmp 12), guard := some (some 41, false), bef := [5, 4, 1, 0, 3, 2] },
                    { dst := some 43, op := Op.fieldAddr 32 (Operand.tmp 10) 0, guard := some (some 41, false), bef := [5, 4, 1, 0, 3, 2] },
                    { dst := some 44, op := Op.load 4 (Operand.tmp 43), guard := some (some 41, false), bef := [7, 5, 4, 1, 0, 3, 2] },
                    { dst := some 45, op := Op.binOp BinOp.neq 4 (Operand.tmp 42) (Operand.tmp 44) 4, guard := some (some 41, false), bef := [6, 5, 4, 1, 0, 3, 2, 8, 7] },
                    { dst := some 46, op := Op.pick (Operand.tmp 41) (Operand.const (Value.bool true)) (Operand.tmp 45), guard := none, bef := [5, 4, 1, 0, 3, 2, 9, 6, 8, 7] },
                    { dst := some 47, op := Op.move (Operand.tmp 46), guard := none, bef := [10, 5, 4, 1, 0, 3, 2, 9, 6, 8, 7] },
                    { dst := some 48, op := Op.load 30 (Operand.tmp 11), guard := some (some 47, false), bef := [11, 10, 5, 4, 1, 0, 3, 2, 9, 6, 8, 7] },
                    { dst := some 49, op := Op.fieldAddr 32 (Operand.tmp 10) 1, guard := some (some 47, false), bef := [11, 10, 5, 4, 1, 0, 3, 2, 9, 6, 8, 7] },
                    { dst := some 50, op := Op.load 30 (Operand.tmp 49), guard := some (some 47, false), bef := [13, 11, 10, 5, 4, 1, 0, 3, 2, 9, 6, 8, 7] },
                    { dst := some 51, op := Op.binOp BinOp.neq 30 (Operand.tmp 48) (Operand.tmp 50) 30, guard := some (some 47, false), bef := [12, 11, 10, 5, 4, 1, 0, 3, 2, 9, 6, 8, 7, 14, 13] },
                    { dst := some 52, op := Op.pick (Operand.tmp 47) (Operand.const (Value.bool true)) (Operand.tmp 51), guard := none, bef := [11, 10, 5, 4, 1, 0, 3, 2, 9, 6, 8, 7, 15, 12, 14, 13] },
                    { dst := some 53, op := Op.move (Operand.tmp 52), guard := none, bef := [16, 11, 10, 5, 4, 1, 0, 3, 2, 9, 6, 8, 7, 15, 12, 14, 13] },
                    { dst := some 54, op := Op.move (Operand.tmp 9), guard := some (some 53, false), bef := [17, 16, 11, 10, 5, 4, 1, 0, 3, 2, 9, 6, 8, 7, 15, 12, 14, 13] },
                    { dst := some 55, op := Op.move (Operand.tmp 3), guard := some (some 53, false), bef := [17, 16, 11, 10, 5, 4, 1, 0, 3, 2, 9, 6, 8, 7, 15, 12, 14, 13] },
                    { dst := some 56, op := Op.call { callee := Callee.value (Operand.func 14), args := { toList := [Operand.tmp 54, Operand.tmp 55] }, argTypes := { toList := [27, 22] } },
                      guard := some (some 53, false), bef := [18, 17, 16, 11, 10, 5, 4, 1, 0, 3, 2, 9, 6, 8, 7, 15, 12, 14, 13, 19] },
                    { dst := some 57, op := Op.fieldAddr 32 (Operand.tmp 10) 0, guard := some (some 53, false), bef := [17, 16, 11, 10, 5, 4, 1, 0, 3, 2, 9, 6, 8, 7, 15, 12, 14, 13] },
                    { dst := some 58, op := Op.load 4 (Operand.tmp 57), guard := some (some 53, false), bef := [21, 17, 16, 11, 10, 5, 4, 1, 0, 3, 2, 9, 6, 8, 7, 15, 12, 14, 13] },
                    { dst := some 59, op := Op.move (Operand.tmp 58), guard := some (some 53, false), bef := [22, 21, 17, 16, 11, 10, 5, 4, 1, 0, 3, 2, 9, 6, 8, 7, 15, 12, 14, 13, 20, 18, 19] },
                    { dst := some 60, op := Op.fieldAddr 32 (Operand.tmp 10) 1, guard := some (some 59, true),
                      bef := [23, 22, 21, 17, 16, 11, 10, 5, 4, 1, 0, 3, 2, 9, 6, 8, 7, 15, 12, 14, 13, 20, 18, 19] },
                    { dst := some 61, op := Op.fieldAddr 30 (Operand.tmp 60) 0, guard := some (some 59, true),
                      bef := [24, 23, 22, 21, 17, 16, 11, 10, 5, 4, 1, 0, 3, 2, 9, 6, 8, 7, 15, 12, 14, 13, 20, 18, 19] },
                    { dst := some 62, op := Op.load 22 (Operand.tmp 61), guard := some (some 59, true),
                      bef := [25, 24, 23, 22, 21, 17, 16, 11, 10, 5, 4, 1, 0, 3, 2, 9, 6, 8, 7, 15, 12, 14, 13, 20, 18, 19] },
                    { dst := some 63, op := Op.move (Operand.tmp 3), guard := some (some 59, true), bef := [23, 22, 21, 17, 16, 11, 10, 5, 4, 1, 0, 3, 2, 9, 6, 8, 7, 15, 12, 14, 13, 20, 18, 19] },
                    { dst := some 64, op := Op.binOp BinOp.eql 22 (Operand.tmp 62) (Operand.tmp 63) 22, guard := some (some 59, true),
                      bef := [26, 25, 24, 23, 22, 21, 17, 16, 11, 10, 5, 4, 1, 0, 3, 2, 9, 6, 8, 7, 15, 12, 14, 13, 20, 18, 19, 27] },
                    { dst := some 65, op := Op.pick (Operand.tmp 59) (Operand.tmp 64) (Operand.const (Value.bool false)), guard := some (some 53, false),
                      bef := [23, 22, 21, 17, 16, 11, 10, 5, 4, 1, 0, 3, 2, 9, 6, 8, 7, 15, 12, 14, 13, 20, 18, 19, 28, 26, 25, 24, 27] },
                    { dst := some 66, op := Op.binOp BinOp.neq 4 (Operand.tmp 56) (Operand.tmp 65) 4, guard := some (some 53, false),
                      bef := [20, 18, 17, 16, 11, 10, 5, 4, 1, 0, 3, 2, 9, 6, 8, 7, 15, 12, 14, 13, 19, 29, 23, 22, 21, 28, 26, 25, 24, 27] },
                    { dst := some 67, op := Op.pick (Operand.tmp 53) (Operand.const (Value.bool true)) (Operand.tmp 66), guard := none,
                      bef := [17, 16, 11, 10, 5, 4, 1, 0, 3, 2, 9, 6, 8, 7, 15, 12, 14, 13, 30, 20, 18, 19, 29, 23, 22, 21, 28, 26, 25, 24, 27] }]).seq
              (IC.cond (Operand.tmp 67) ((IC.ops [{ dst := some 8, op := Op.assign (Operand.const (Value.bool false)), guard := none }]).seq IC.ret) IC.skip)).seq
          ((IC.ops
                [{ dst := some 68, op := Op.move (Operand.tmp 9), guard := none },
                  { dst := some 69, op := Op.call { callee := Callee.value (Operand.func 15), args := { toList := [Operand.tmp 68] }, argTypes := { toList := [27] } }, guard := none },
                  { dst := some 13, op := Op.assign (Operand.tmp 69), guard := none }]).seq
            (((IC.ops
                      [{ dst := some 70, op := Op.move (Operand.tmp 13), guard := none },
                        { dst := some 71, op := Op.call { callee := Callee.builtin Builtin.len, args := { toList := [Operand.tmp 70] }, argTypes := { toList := [23] } }, guard := none },
                        { dst := some 72, op := Op.fieldAddr 32 (Operand.tmp 10) 2, guard := none }, { dst := some 73, op := Op.load 23 (Operand.tmp 72), guard := none },
                        { dst := some 74, op := Op.call { callee := Callee.builtin Builtin.len, args := { toList := [Operand.tmp 73] }, argTypes := { toList := [23] } }, guard := none },
                        { dst := some 75, op := Op.binOp BinOp.neq 3 (Operand.tmp 71) (Operand.tmp 74) 3, guard := none }]).seq
                  (IC.cond (Operand.tmp 75) ((IC.ops [{ dst := some 8, op := Op.assign (Operand.const (Value.bool false)), guard := none }]).seq IC.ret) IC.skip)).seq
              (((IC.ops
                        [{ dst := some 76, op := Op.move (Operand.tmp 13), guard := none },
                          { dst := some 77, op := Op.call { callee := Callee.builtin Builtin.len, args := { toList := [Operand.tmp 76] }, argTypes := { toList := [23] } }, guard := none },
                          { dst := some 78, op := Op.move (Operand.const (Value.int IntKind.i64 (Int.ofNat 0))), guard := none }]).seq
                    (IC.block 0
                      ((IC.ops [{ dst := some 79, op := Op.binOp BinOp.lss 3 (Operand.tmp 78) (Operand.tmp 77) 3, guard := none }]).seq
                          ((IC.cond (Operand.tmp 79) IC.skip (IC.exit 0)).seq
                            ((IC.block 1
                                  ((IC.ops [{ dst := some 80, op := Op.move (Operand.tmp 78), guard := none }, { dst := some 14, op := Op.assign (Operand.tmp 80), guard := none }]).seq
                                    ((IC.opsD
                                          [{ dst := some 81, op := Op.move (Operand.tmp 13), guard := none }, { dst := some 82, op := Op.move (Operand.tmp 14), guard := none },
                                            { dst := some 83, op := Op.indexAddr 23 (Operand.tmp 81) (Operand.tmp 82), guard := none, bef := [0, 1] },
                                            { dst := some 84, op := Op.load 9 (Operand.tmp 83), guard := none, bef := [2, 0, 1] },
                                            { dst := some 85, op := Op.fieldAddr 32 (Operand.tmp 10) 2, guard := none },
                                            { dst := some 86, op := Op.load 23 (Operand.tmp 85), guard := none, bef := [4] }, { dst := some 87, op := Op.move (Operand.tmp 14), guard := none },
                                            { dst := some 88, op := Op.indexAddr 23 (Operand.tmp 86) (Operand.tmp 87), guard := none, bef := [5, 4, 6] },
                                            { dst := some 89, op := Op.load 9 (Operand.tmp 88), guard := none, bef := [7, 5, 4, 6] },
                                            { dst := some 90, op := Op.binOp BinOp.neq 9 (Operand.tmp 84) (Operand.tmp 89) 9, guard := none, bef := [3, 2, 0, 1, 8, 7, 5, 4, 6] }]).seq
                                      (IC.cond (Operand.tmp 90) ((IC.ops [{ dst := some 8, op := Op.assign (Operand.const (Value.bool false)), guard := none }]).seq IC.ret) IC.skip)))).seq
                              (IC.ops
                                [{ dst := some 91, op := Op.binOp BinOp.add 3 (Operand.tmp 78) (Operand.const (Value.int IntKind.i64 (Int.ofNat 1))) 3, guard := none },
                                  { dst := some 78, op := Op.move (Operand.tmp 91), guard := none }])))).loop)).seq
                ((IC.opsD
                      [{ dst := some 92, op := Op.fieldAddr 32 (Operand.tmp 10) 0, guard := none }, { dst := some 93, op := Op.load 4 (Operand.tmp 92), guard := none, bef := [0] },
                        { dst := some 94, op := Op.unOp UnOp.not 4 (Operand.tmp 93), guard := none, bef := [1, 0] },
                        { dst := some 95, op := Op.move (Operand.tmp 94), guard := none, bef := [2, 1, 0] },
                        { dst := some 96, op := Op.move (Operand.tmp 9), guard := some (some 95, false), bef := [3, 2, 1, 0] },
                        { dst := some 97, op := Op.call { callee := Callee.invoke (Operand.tmp 96) "Error", args := { toList := [] }, argTypes := { toList := [] } }, guard := some (some 95, false),
                          bef := [4, 3, 2, 1, 0] },
                        { dst := some 98, op := Op.load 32 (Operand.tmp 10), guard := some (some 95, false), bef := [3, 2, 1, 0] },
                        { dst := some 99, op := Op.call { callee := Callee.value (Operand.func 16), args := { toList := [Operand.tmp 98] }, argTypes := { toList := [32] } },
                          guard := some (some 95, false), bef := [6, 3, 2, 1, 0, 5, 4] },
                        { dst := some 100, op := Op.binOp BinOp.eql 9 (Operand.tmp 97) (Operand.tmp 99) 9, guard := some (some 95, false), bef := [5, 4, 3, 2, 1, 0, 7, 6] },
                        { dst := some 101, op := Op.pick (Operand.tmp 95) (Operand.const (Value.bool true)) (Operand.tmp 100), guard := none, bef := [3, 2, 1, 0, 8, 5, 4, 7, 6] },
                        { dst := some 8, op := Op.assign (Operand.tmp 101), guard := none, bef := [9, 3, 2, 1, 0, 8, 5, 4, 7, 6] }]).seq
                  IC.ret))))))))
theorem ic3_eq : Tryd.f3.body.map comp = some ic3 := by kernel_rfl
theorem ic3_ok : Tryd.f3.body.map (okC Tryd.f3.ntmps) = some true := by kernel_rfl
theorem ic3_nm : (Tryd.f3.name != "runtime.NumGoroutine") = true := by kernel_rfl
@[simp] theorem ic3_n : Tryd.f3.ntmps = 102 := by kernel_rfl
@[simp] theorem ic3_r : Tryd.f3.results.toList = [ResultVar.tmp 8] := by kernel_rfl

def ic4 : IC :=
  (IC.ops [{ dst := some 8, op := Op.assign (Operand.const (Value.bool false)), guard := none }]).seq
  (((IC.ops
            [{ dst := some 17, op := Op.call { callee := Callee.value (Operand.func 9), args := { toList := [] }, argTypes := { toList := [] } }, guard := none },
              { dst := some 18, op := Op.unOp UnOp.not 4 (Operand.tmp 17), guard := none }, { dst := some 19, op := Op.move (Operand.tmp 18), guard := none },
              { dst := some 20, op := Op.move (Operand.tmp 2), guard := some (some 19, false) },
              { dst := some 21, op := Op.call { callee := Callee.builtin Builtin.len, args := { toList := [Operand.tmp 20] }, argTypes := { toList := [9] } }, guard := some (some 19, false) },
              { dst := some 22, op := Op.binOp BinOp.gtr 3 (Operand.tmp 21) (Operand.const (Value.int IntKind.i64 (Int.ofNat 100))) 3, guard := some (some 19, false) },
              { dst := some 23, op := Op.pick (Operand.tmp 19) (Operand.const (Value.bool true)) (Operand.tmp 22), guard := none }, { dst := some 24, op := Op.move (Operand.tmp 23), guard := none },
              { dst := some 25, op := Op.move (Operand.tmp 3), guard := some (some 24, false) },
              { dst := some 26, op := Op.call { callee := Callee.builtin Builtin.len, args := { toList := [Operand.tmp 25] }, argTypes := { toList := [9] } }, guard := some (some 24, false) },
              { dst := some 27, op := Op.binOp BinOp.gtr 3 (Operand.tmp 26) (Operand.const (Value.int IntKind.i64 (Int.ofNat 100))) 3, guard := some (some 24, false) },
              { dst := some 28, op := Op.pick (Operand.tmp 24) (Operand.const (Value.bool true)) (Operand.tmp 27), guard := none }]).seq
        (IC.cond (Operand.tmp 28)
          ((IC.ops
                [{ dst := some 29, op := Op.call { callee := Callee.value (Operand.func 9), args := { toList := [] }, argTypes := { toList := [] } }, guard := none },
                  { dst := some 8, op := Op.assign (Operand.tmp 29), guard := none }]).seq
            IC.ret)
          IC.skip)).seq
    ((IC.ops
          [{ dst := some 30, op := Op.move (Operand.tmp 0), guard := none }, { dst := some 31, op := Op.move (Operand.tmp 1), guard := none },
            { dst := some 32, op := Op.call { callee := Callee.value (Operand.func 17), args := { toList := [Operand.tmp 30, Operand.tmp 31] }, argTypes := { toList := [22, 3] } }, guard := none },
            { dst := some 9, op := Op.assign (Operand.tmp 32), guard := none }]).seq
      ((IC.ops
            [{ dst := some 34, op := Op.move (Operand.tmp 9), guard := none },
              { dst := some 35, op := Op.call { callee := Callee.value (Operand.func 13), args := { toList := [Operand.tmp 34] }, argTypes := { toList := [27] } }, guard := none },
              { dst := some 33, op := Op.move (Operand.tmp 35), guard := none }, { dst := some 36, op := Op.extract (Operand.tmp 33) 0, guard := none },
              { dst := some 37, op := Op.extract (Operand.tmp 33) 1, guard := none }, { dst := some 10, op := Op.alloc 30, guard := none },
              { dst := none, op := Op.store 30 (Operand.tmp 10) (Operand.tmp 36), guard := none }, { dst := some 11, op := Op.assign (Operand.tmp 37), guard := none }]).seq
        ((IC.ops
              [{ dst := some 38, op := Op.move (Operand.tmp 2), guard := none }, { dst := some 39, op := Op.move (Operand.tmp 3), guard := none },
                { dst := some 40, op := Op.move (Operand.tmp 9), guard := none },
                { dst := some 41, op := Op.call { callee := Callee.value (Operand.func 18), args := { toList := [Operand.tmp 39, Operand.tmp 40] }, argTypes := { toList := [9, 27] } },
                  guard := none },
                { dst := some 42, op := Op.call { callee := Callee.value (Operand.func 18), args := { toList := [Operand.tmp 38, Operand.tmp 41] }, argTypes := { toList := [9, 27] } },
                  guard := none },
                { dst := some 12, op := Op.assign (Operand.tmp 42), guard := none }]).seq
          ((IC.ops
                [{ dst := some 44, op := Op.move (Operand.tmp 12), guard := none },
                  { dst := some 45, op := Op.call { callee := Callee.value (Operand.func 13), args := { toList := [Operand.tmp 44] }, argTypes := { toList := [27] } }, guard := none },
                  { dst := some 43, op := Op.move (Operand.tmp 45), guard := none }, { dst := some 46, op := Op.extract (Operand.tmp 43) 0, guard := none },
                  { dst := some 47, op := Op.extract (Operand.tmp 43) 1, guard := none }, { dst := some 13, op := Op.alloc 30, guard := none },
                  { dst := none, op := Op.store 30 (Operand.tmp 13) (Operand.tmp 46), guard := none }, { dst := some 14, op := Op.assign (Operand.tmp 47), guard := none }]).seq
            ((IC.ops
                  [{ dst := some 49, op := Op.call { callee := Callee.value (Operand.func 13), args := { toList := [Operand.const Value.nilIface] }, argTypes := { toList := [27] } }, guard := none },
                    { dst := some 48, op := Op.move (Operand.tmp 49), guard := none }, { dst := some 50, op := Op.extract (Operand.tmp 48) 0, guard := none },
                    { dst := some 51, op := Op.extract (Operand.tmp 48) 1, guard := none }, { dst := some 15, op := Op.alloc 30, guard := none },
                    { dst := none, op := Op.store 30 (Operand.tmp 15) (Operand.tmp 50), guard := none }, { dst := some 16, op := Op.assign (Operand.tmp 51), guard := none }]).seq
              (((IC.ops
                        [{ dst := some 52, op := Op.load 30 (Operand.tmp 10), guard := none }, { dst := some 53, op := Op.load 30 (Operand.tmp 13), guard := none },
                          { dst := some 54, op := Op.binOp BinOp.neq 30 (Operand.tmp 52) (Operand.tmp 53) 30, guard := none }, { dst := some 55, op := Op.move (Operand.tmp 54), guard := none },
                          { dst := some 56, op := Op.move (Operand.tmp 11), guard := some (some 55, false) }, { dst := some 57, op := Op.move (Operand.tmp 14), guard := some (some 55, false) },
                          { dst := some 58, op := Op.binOp BinOp.neq 4 (Operand.tmp 56) (Operand.tmp 57) 4, guard := some (some 55, false) },
                          { dst := some 59, op := Op.pick (Operand.tmp 55) (Operand.const (Value.bool true)) (Operand.tmp 58), guard := none },
                          { dst := some 60, op := Op.move (Operand.tmp 59), guard := none }, { dst := some 61, op := Op.move (Operand.tmp 11), guard := some (some 60, false) },
                          { dst := some 62, op := Op.move (Operand.tmp 0), guard := some (some 60, false) },
                          { dst := some 63, op := Op.call { callee := Callee.value (Operand.func 19), args := { toList := [Operand.tmp 62] }, argTypes := { toList := [22] } },
                            guard := some (some 60, false) },
                          { dst := some 64, op := Op.binOp BinOp.neq 4 (Operand.tmp 61) (Operand.tmp 63) 4, guard := some (some 60, false) },
                          { dst := some 65, op := Op.pick (Operand.tmp 60) (Operand.const (Value.bool true)) (Operand.tmp 64), guard := none },
                          { dst := some 66, op := Op.move (Operand.tmp 65), guard := none }, { dst := some 67, op := Op.move (Operand.tmp 16), guard := some (some 66, false) },
                          { dst := some 68, op := Op.pick (Operand.tmp 66) (Operand.const (Value.bool true)) (Operand.tmp 67), guard := none },
                          { dst := some 69, op := Op.move (Operand.tmp 68), guard := none }, { dst := some 70, op := Op.move (Operand.tmp 0), guard := some (some 69, false) },
                          { dst := some 71,
                            op := Op.call { callee := Callee.value (Operand.func 14), args := { toList := [Operand.const Value.nilIface, Operand.tmp 70] }, argTypes := { toList := [27, 22] } },
                            guard := some (some 69, false) },
                          { dst := some 72, op := Op.pick (Operand.tmp 69) (Operand.const (Value.bool true)) (Operand.tmp 71), guard := none },
                          { dst := some 73, op := Op.move (Operand.tmp 72), guard := none },
                          { dst := some 74, op := Op.call { callee := Callee.value (Operand.func 15), args := { toList := [Operand.const Value.nilIface] }, argTypes := { toList := [27] } },
                            guard := some (some 73, false) },
                          { dst := some 75, op := Op.call { callee := Callee.builtin Builtin.len, args := { toList := [Operand.tmp 74] }, argTypes := { toList := [23] } },
                            guard := some (some 73, false) },
                          { dst := some 76, op := Op.binOp BinOp.neq 3 (Operand.tmp 75) (Operand.const (Value.int IntKind.i64 (Int.ofNat 0))) 3, guard := some (some 73, false) },
                          { dst := some 77, op := Op.pick (Operand.tmp 73) (Operand.const (Value.bool true)) (Operand.tmp 76), guard := none },
                          { dst := some 78, op := Op.move (Operand.tmp 77), guard := none }, { dst := some 79, op := Op.move (Operand.tmp 2), guard := some (some 78, false) },
                          { dst := some 80,
                            op := Op.call { callee := Callee.value (Operand.func 18), args := { toList := [Operand.tmp 79, Operand.const Value.nilIface] }, argTypes := { toList := [9, 27] } },
                            guard := some (some 78, false) },
                          { dst := some 81, op := Op.binOp BinOp.neq 27 (Operand.tmp 80) (Operand.const Value.nilIface) 27, guard := some (some 78, false) },
                          { dst := some 82, op := Op.pick (Operand.tmp 78) (Operand.const (Value.bool true)) (Operand.tmp 81), guard := none }]).seq
                    (IC.cond (Operand.tmp 82) ((IC.ops [{ dst := some 8, op := Op.assign (Operand.const (Value.bool false)), guard := none }]).seq IC.ret) IC.skip)).seq
                ((IC.ops
                      [{ dst := some 83, op := Op.move (Operand.tmp 11), guard := none }, { dst := some 84, op := Op.unOp UnOp.not 4 (Operand.tmp 83), guard := none },
                        { dst := some 85, op := Op.move (Operand.tmp 84), guard := none }, { dst := some 86, op := Op.move (Operand.tmp 12), guard := some (some 85, false) },
                        { dst := some 87, op := Op.call { callee := Callee.invoke (Operand.tmp 86) "Error", args := { toList := [] }, argTypes := { toList := [] } }, guard := some (some 85, false) },
                        { dst := some 88, op := Op.move (Operand.tmp 2), guard := some (some 85, false) },
                        { dst := some 89,
                          op :=
                            Op.binOp BinOp.add 9 (Operand.tmp 88) (Operand.const (Value.string { data := { toList := [58, 32] } }))
                              9,
                          guard := some (some 85, false) },
                        { dst := some 90, op := Op.move (Operand.tmp 3), guard := some (some 85, false) },
                        { dst := some 91, op := Op.binOp BinOp.add 9 (Operand.tmp 89) (Operand.tmp 90) 9, guard := some (some 85, false) },
                        { dst := some 92,
                          op :=
                            Op.binOp BinOp.add 9 (Operand.tmp 91) (Operand.const (Value.string { data := { toList := [58, 32] } }))
                              9,
                          guard := some (some 85, false) },
                        { dst := some 93, op := Op.move (Operand.tmp 9), guard := some (some 85, false) },
                        { dst := some 94, op := Op.call { callee := Callee.invoke (Operand.tmp 93) "Error", args := { toList := [] }, argTypes := { toList := [] } }, guard := some (some 85, false) },
                        { dst := some 95, op := Op.binOp BinOp.add 9 (Operand.tmp 92) (Operand.tmp 94) 9, guard := some (some 85, false) },
                        { dst := some 96, op := Op.binOp BinOp.eql 9 (Operand.tmp 87) (Operand.tmp 95) 9, guard := some (some 85, false) },
                        { dst := some 97, op := Op.move (Operand.tmp 96), guard := some (some 85, false) }, { dst := some 98, op := Op.fieldAddr 30 (Operand.tmp 10) 1, guard := some (some 97, true) },
                        { dst := some 99, op := Op.load 3 (Operand.tmp 98), guard := some (some 97, true) },
                        { dst := some 100, op := Op.binOp BinOp.geq 3 (Operand.tmp 99) (Operand.const (Value.int IntKind.i64 (Int.ofNat 0))) 3, guard := some (some 97, true) },
                        { dst := some 101, op := Op.pick (Operand.tmp 97) (Operand.tmp 100) (Operand.const (Value.bool false)), guard := some (some 85, false) },
                        { dst := some 102, op := Op.move (Operand.tmp 101), guard := some (some 85, false) },
                        { dst := some 103, op := Op.fieldAddr 30 (Operand.tmp 10) 1, guard := some (some 102, true) },
                        { dst := some 104, op := Op.load 3 (Operand.tmp 103), guard := some (some 102, true) },
                        { dst := some 105, op := Op.binOp BinOp.leq 3 (Operand.tmp 104) (Operand.const (Value.int IntKind.i64 (Int.ofNat 1099511627775))) 3, guard := some (some 102, true) },
                        { dst := some 106, op := Op.pick (Operand.tmp 102) (Operand.tmp 105) (Operand.const (Value.bool false)), guard := some (some 85, false) },
                        { dst := some 107, op := Op.move (Operand.tmp 106), guard := some (some 85, false) }, { dst := some 108, op := Op.move (Operand.tmp 1), guard := some (some 107, true) },
                        { dst := some 109, op := Op.binOp BinOp.lss 3 (Operand.tmp 108) (Operand.const (Value.int IntKind.i64 (Int.ofNat 0))) 3, guard := some (some 107, true) },
                        { dst := some 110, op := Op.move (Operand.tmp 109), guard := some (some 107, true) }, { dst := some 111, op := Op.move (Operand.tmp 1), guard := some (some 110, false) },
                        { dst := some 112, op := Op.binOp BinOp.gtr 3 (Operand.tmp 111) (Operand.const (Value.int IntKind.i64 (Int.ofNat 1099511627775))) 3, guard := some (some 110, false) },
                        { dst := some 113, op := Op.pick (Operand.tmp 110) (Operand.const (Value.bool true)) (Operand.tmp 112), guard := some (some 107, true) },
                        { dst := some 114, op := Op.move (Operand.tmp 113), guard := some (some 107, true) },
                        { dst := some 115, op := Op.fieldAddr 30 (Operand.tmp 10) 1, guard := some (some 114, false) },
                        { dst := some 116, op := Op.load 3 (Operand.tmp 115), guard := some (some 114, false) }, { dst := some 117, op := Op.move (Operand.tmp 1), guard := some (some 114, false) },
                        { dst := some 118, op := Op.binOp BinOp.eql 3 (Operand.tmp 116) (Operand.tmp 117) 3, guard := some (some 114, false) },
                        { dst := some 119, op := Op.pick (Operand.tmp 114) (Operand.const (Value.bool true)) (Operand.tmp 118), guard := some (some 107, true) },
                        { dst := some 120, op := Op.pick (Operand.tmp 107) (Operand.tmp 119) (Operand.const (Value.bool false)), guard := some (some 85, false) },
                        { dst := some 121, op := Op.pick (Operand.tmp 85) (Operand.const (Value.bool true)) (Operand.tmp 120), guard := none },
                        { dst := some 8, op := Op.assign (Operand.tmp 121), guard := none }]).seq
                  IC.ret))))))))
theorem ic4_eq : Tryd.f4.body.map comp = some ic4 := by kernel_rfl
theorem ic4_ok : Tryd.f4.body.map (okC Tryd.f4.ntmps) = some true := by kernel_rfl
theorem ic4_nm : (Tryd.f4.name != "runtime.NumGoroutine") = true := by kernel_rfl
@[simp] theorem ic4_n : Tryd.f4.ntmps = 122 := by kernel_rfl
@[simp] theorem ic4_r : Tryd.f4.results.toList = [ResultVar.tmp 8] := by kernel_rfl

def ic5 : IC :=
  (IC.ops [{ dst := some 6, op := Op.assign (Operand.const (Value.bool false)), guard := none }]).seq
  (((IC.ops
            [{ dst := some 12, op := Op.call { callee := Callee.value (Operand.func 9), args := { toList := [] }, argTypes := { toList := [] } }, guard := none },
              { dst := some 13, op := Op.unOp UnOp.not 4 (Operand.tmp 12), guard := none }, { dst := some 14, op := Op.move (Operand.tmp 13), guard := none },
              { dst := some 15, op := Op.move (Operand.tmp 0), guard := some (some 14, false) },
              { dst := some 16, op := Op.call { callee := Callee.builtin Builtin.len, args := { toList := [Operand.tmp 15] }, argTypes := { toList := [44] } }, guard := some (some 14, false) },
              { dst := some 17, op := Op.binOp BinOp.gtr 3 (Operand.tmp 16) (Operand.const (Value.int IntKind.i64 (Int.ofNat 30))) 3, guard := some (some 14, false) },
              { dst := some 18, op := Op.pick (Operand.tmp 14) (Operand.const (Value.bool true)) (Operand.tmp 17), guard := none }]).seq
        (IC.cond (Operand.tmp 18)
          ((IC.ops
                [{ dst := some 19, op := Op.call { callee := Callee.value (Operand.func 9), args := { toList := [] }, argTypes := { toList := [] } }, guard := none },
                  { dst := some 6, op := Op.assign (Operand.tmp 19), guard := none }]).seq
            IC.ret)
          IC.skip)).seq
    ((IC.ops [{ dst := some 7, op := Op.alloc 47, guard := none }, { dst := some 8, op := Op.alloc 47, guard := none }]).seq
      (((IC.ops
                [{ dst := some 20, op := Op.move (Operand.tmp 0), guard := none },
                  { dst := some 21, op := Op.call { callee := Callee.builtin Builtin.len, args := { toList := [Operand.tmp 20] }, argTypes := { toList := [44] } }, guard := none },
                  { dst := some 22, op := Op.move (Operand.const (Value.int IntKind.i64 (Int.ofNat 0))), guard := none }]).seq
            (IC.block 0
              ((IC.ops [{ dst := some 23, op := Op.binOp BinOp.lss 3 (Operand.tmp 22) (Operand.tmp 21) 3, guard := none }]).seq
                  ((IC.cond (Operand.tmp 23) IC.skip (IC.exit 0)).seq
                    ((IC.block 1
                          ((IC.ops [{ dst := some 24, op := Op.move (Operand.tmp 22), guard := none }, { dst := some 9, op := Op.assign (Operand.tmp 24), guard := none }]).seq
                            ((IC.ops
                                  [{ dst := some 25, op := Op.move (Operand.tmp 0), guard := none }, { dst := some 26, op := Op.move (Operand.tmp 9), guard := none },
                                    { dst := some 27, op := Op.indexAddr 44 (Operand.tmp 25) (Operand.tmp 26), guard := none }, { dst := some 28, op := Op.load 22 (Operand.tmp 27), guard := none },
                                    { dst := some 29, op := Op.move (Operand.tmp 1), guard := none },
                                    { dst := some 30,
                                      op := Op.call { callee := Callee.value (Operand.func 17), args := { toList := [Operand.tmp 28, Operand.tmp 29] }, argTypes := { toList := [22, 3] } },
                                      guard := none },
                                    { dst := some 31,
                                      op := Op.call { callee := Callee.value (Operand.func 20), args := { toList := [Operand.tmp 7, Operand.tmp 30] }, argTypes := { toList := [47, 27] } },
                                      guard := none }]).seq
                              (IC.ops
                                [{ dst := some 32, op := Op.move (Operand.tmp 0), guard := none }, { dst := some 33, op := Op.move (Operand.tmp 9), guard := none },
                                  { dst := some 34, op := Op.move (Operand.tmp 2), guard := none }, { dst := some 35, op := Op.convert 5 3 (Operand.tmp 34), guard := none },
                                  { dst := some 36, op := Op.binOp BinOp.add 3 (Operand.tmp 33) (Operand.tmp 35) 3, guard := none }, { dst := some 37, op := Op.move (Operand.tmp 0), guard := none },
                                  { dst := some 38, op := Op.call { callee := Callee.builtin Builtin.len, args := { toList := [Operand.tmp 37] }, argTypes := { toList := [44] } }, guard := none },
                                  { dst := some 39, op := Op.binOp BinOp.rem 3 (Operand.tmp 36) (Operand.tmp 38) 3, guard := none },
                                  { dst := some 40, op := Op.indexAddr 44 (Operand.tmp 32) (Operand.tmp 39), guard := none }, { dst := some 41, op := Op.load 22 (Operand.tmp 40), guard := none },
                                  { dst := some 42, op := Op.move (Operand.tmp 1), guard := none },
                                  { dst := some 43,
                                    op := Op.call { callee := Callee.value (Operand.func 17), args := { toList := [Operand.tmp 41, Operand.tmp 42] }, argTypes := { toList := [22, 3] } },
                                    guard := none },
                                  { dst := some 44,
                                    op := Op.call { callee := Callee.value (Operand.func 20), args := { toList := [Operand.tmp 8, Operand.tmp 43] }, argTypes := { toList := [47, 27] } },
                                    guard := none }])))).seq
                      (IC.ops
                        [{ dst := some 45, op := Op.binOp BinOp.add 3 (Operand.tmp 22) (Operand.const (Value.int IntKind.i64 (Int.ofNat 1))) 3, guard := none },
                          { dst := some 22, op := Op.move (Operand.tmp 45), guard := none }])))).loop)).seq
        ((IC.ops
              [{ dst := some 46, op := Op.call { callee := Callee.value (Operand.func 21), args := { toList := [Operand.tmp 7] }, argTypes := { toList := [47] } }, guard := none },
                { dst := some 10, op := Op.assign (Operand.tmp 46), guard := none }]).seq
          (((IC.ops
                    [{ dst := some 47, op := Op.move (Operand.tmp 10), guard := none },
                      { dst := some 48, op := Op.call { callee := Callee.builtin Builtin.len, args := { toList := [Operand.tmp 47] }, argTypes := { toList := [49] } }, guard := none },
                      { dst := some 49, op := Op.move (Operand.const (Value.int IntKind.i64 (Int.ofNat 0))), guard := none }]).seq
                (IC.block 2
                  ((IC.ops [{ dst := some 50, op := Op.binOp BinOp.lss 3 (Operand.tmp 49) (Operand.tmp 48) 3, guard := none }]).seq
                      ((IC.cond (Operand.tmp 50) IC.skip (IC.exit 2)).seq
                        ((IC.block 3
                              ((IC.ops [{ dst := some 51, op := Op.move (Operand.tmp 49), guard := none }, { dst := some 11, op := Op.assign (Operand.tmp 51), guard := none }]).seq
                                ((IC.opsD
                                      [{ dst := some 52, op := Op.move (Operand.tmp 11), guard := none },
                                        { dst := some 53, op := Op.binOp BinOp.gtr 3 (Operand.tmp 52) (Operand.const (Value.int IntKind.i64 (Int.ofNat 0))) 3, guard := none, bef := [0] },
                                        { dst := some 54, op := Op.move (Operand.tmp 53), guard := none, bef := [1, 0] },
                                        { dst := some 55, op := Op.move (Operand.tmp 10), guard := some (some 54, true), bef := [2, 1, 0] },
                                        { dst := some 56, op := Op.move (Operand.tmp 11), guard := some (some 54, true), bef := [2, 1, 0] },
                                        { dst := some 57, op := Op.binOp BinOp.sub 3 (Operand.tmp 56) (Operand.const (Value.int IntKind.i64 (Int.ofNat 1))) 3, guard := some (some 54, true),
                                          bef := [4, 2, 1, 0] },
                                        { dst := some 58, op := Op.indexAddr 49 (Operand.tmp 55) (Operand.tmp 57), guard := some (some 54, true), bef := [3, 2, 1, 0, 5, 4] },
                                        { dst := some 59, op := Op.fieldAddr 30 (Operand.tmp 58) 0, guard := some (some 54, true), bef := [6, 3, 2, 1, 0, 5, 4] },
                                        { dst := some 60, op := Op.load 22 (Operand.tmp 59), guard := some (some 54, true), bef := [7, 6, 3, 2, 1, 0, 5, 4] },
                                        { dst := some 61, op := Op.move (Operand.tmp 10), guard := some (some 54, true), bef := [2, 1, 0] },
                                        { dst := some 62, op := Op.move (Operand.tmp 11), guard := some (some 54, true), bef := [2, 1, 0] },
                                        { dst := some 63, op := Op.indexAddr 49 (Operand.tmp 61) (Operand.tmp 62), guard := some (some 54, true), bef := [9, 2, 1, 0, 10] },
                                        { dst := some 64, op := Op.fieldAddr 30 (Operand.tmp 63) 0, guard := some (some 54, true), bef := [11, 9, 2, 1, 0, 10] },
                                        { dst := some 65, op := Op.load 22 (Operand.tmp 64), guard := some (some 54, true), bef := [12, 11, 9, 2, 1, 0, 10] },
                                        { dst := some 66, op := Op.binOp BinOp.geq 22 (Operand.tmp 60) (Operand.tmp 65) 22, guard := some (some 54, true),
                                          bef := [8, 7, 6, 3, 2, 1, 0, 5, 4, 13, 12, 11, 9, 10] },
                                        { dst := some 67, op := Op.pick (Operand.tmp 54) (Operand.tmp 66) (Operand.const (Value.bool false)), guard := none,
                                          bef := [2, 1, 0, 14, 8, 7, 6, 3, 5, 4, 13, 12, 11, 9, 10] },
                                        { dst := some 68, op := Op.move (Operand.tmp 67), guard := none, bef := [15, 2, 1, 0, 14, 8, 7, 6, 3, 5, 4, 13, 12, 11, 9, 10] },
                                        { dst := some 69, op := Op.move (Operand.tmp 10), guard := some (some 68, false), bef := [16, 15, 2, 1, 0, 14, 8, 7, 6, 3, 5, 4, 13, 12, 11, 9, 10] },
                                        { dst := some 70, op := Op.move (Operand.tmp 11), guard := some (some 68, false), bef := [16, 15, 2, 1, 0, 14, 8, 7, 6, 3, 5, 4, 13, 12, 11, 9, 10] },
                                        { dst := some 71, op := Op.indexAddr 49 (Operand.tmp 69) (Operand.tmp 70), guard := some (some 68, false),
                                          bef := [17, 16, 15, 2, 1, 0, 14, 8, 7, 6, 3, 5, 4, 13, 12, 11, 9, 10, 18] },
                                        { dst := some 72, op := Op.fieldAddr 30 (Operand.tmp 71) 0, guard := some (some 68, false),
                                          bef := [19, 17, 16, 15, 2, 1, 0, 14, 8, 7, 6, 3, 5, 4, 13, 12, 11, 9, 10, 18] },
                                        { dst := some 73, op := Op.load 22 (Operand.tmp 72), guard := some (some 68, false),
                                          bef := [20, 19, 17, 16, 15, 2, 1, 0, 14, 8, 7, 6, 3, 5, 4, 13, 12, 11, 9, 10, 18] },
                                        { dst := some 74,
                                          op := Op.call { callee := Callee.value (Operand.func 22), args := { toList := [Operand.tmp 7, Operand.tmp 73] }, argTypes := { toList := [47, 22] } },
                                          guard := some (some 68, false), bef := [21, 20, 19, 17, 16, 15, 2, 1, 0, 14, 8, 7, 6, 3, 5, 4, 13, 12, 11, 9, 10, 18] },
                                        { dst := some 75, op := Op.unOp UnOp.not 4 (Operand.tmp 74), guard := some (some 68, false),
                                          bef := [22, 21, 20, 19, 17, 16, 15, 2, 1, 0, 14, 8, 7, 6, 3, 5, 4, 13, 12, 11, 9, 10, 18] },
                                        { dst := some 76, op := Op.pick (Operand.tmp 68) (Operand.const (Value.bool true)) (Operand.tmp 75), guard := none,
                                          bef := [16, 15, 2, 1, 0, 14, 8, 7, 6, 3, 5, 4, 13, 12, 11, 9, 10, 23, 22, 21, 20, 19, 17, 18] }]).seq
                                  (IC.cond (Operand.tmp 76) ((IC.ops [{ dst := some 6, op := Op.assign (Operand.const (Value.bool false)), guard := none }]).seq IC.ret) IC.skip)))).seq
                          (IC.ops
                            [{ dst := some 77, op := Op.binOp BinOp.add 3 (Operand.tmp 49) (Operand.const (Value.int IntKind.i64 (Int.ofNat 1))) 3, guard := none },
                              { dst := some 49, op := Op.move (Operand.tmp 77), guard := none }])))).loop)).seq
            ((IC.ops
                  [{ dst := some 78, op := Op.move (Operand.tmp 10), guard := none },
                    { dst := some 79, op := Op.call { callee := Callee.value (Operand.func 21), args := { toList := [Operand.tmp 8] }, argTypes := { toList := [47] } }, guard := none },
                    { dst := some 80, op := Op.call { callee := Callee.value (Operand.func 23), args := { toList := [Operand.tmp 78, Operand.tmp 79] }, argTypes := { toList := [49, 49] } },
                      guard := none },
                    { dst := some 81, op := Op.move (Operand.tmp 80), guard := none }, { dst := some 82, op := Op.move (Operand.tmp 10), guard := some (some 81, true) },
                    { dst := some 83, op := Op.call { callee := Callee.builtin Builtin.len, args := { toList := [Operand.tmp 82] }, argTypes := { toList := [49] } }, guard := some (some 81, true) },
                    { dst := some 84, op := Op.binOp BinOp.leq 3 (Operand.tmp 83) (Operand.const (Value.int IntKind.i64 (Int.ofNat 11))) 3, guard := some (some 81, true) },
                    { dst := some 85, op := Op.pick (Operand.tmp 81) (Operand.tmp 84) (Operand.const (Value.bool false)), guard := none },
                    { dst := some 6, op := Op.assign (Operand.tmp 85), guard := none }]).seq
              IC.ret))))))
theorem ic5_eq : Tryd.f5.body.map comp = some ic5 := by kernel_rfl
theorem ic5_ok : Tryd.f5.body.map (okC Tryd.f5.ntmps) = some true := by kernel_rfl
theorem ic5_nm : (Tryd.f5.name != "runtime.NumGoroutine") = true := by kernel_rfl
@[simp] theorem ic5_n : Tryd.f5.ntmps = 86 := by kernel_rfl
@[simp] theorem ic5_r : Tryd.f5.results.toList = [ResultVar.tmp 6] := by kernel_rfl

def ic6 : IC :=
  (IC.ops [{ dst := some 2, op := Op.assign (Operand.const (Value.bool false)), guard := none }]).seq
  (((IC.ops
            [{ dst := some 10, op := Op.call { callee := Callee.value (Operand.func 9), args := { toList := [] }, argTypes := { toList := [] } }, guard := none },
              { dst := some 11, op := Op.unOp UnOp.not 4 (Operand.tmp 10), guard := none }, { dst := some 12, op := Op.move (Operand.tmp 11), guard := none },
              { dst := some 13, op := Op.move (Operand.tmp 0), guard := some (some 12, false) },
              { dst := some 14, op := Op.call { callee := Callee.builtin Builtin.len, args := { toList := [Operand.tmp 13] }, argTypes := { toList := [53] } }, guard := some (some 12, false) },
              { dst := some 15, op := Op.binOp BinOp.gtr 3 (Operand.tmp 14) (Operand.const (Value.int IntKind.i64 (Int.ofNat 60))) 3, guard := some (some 12, false) },
              { dst := some 16, op := Op.pick (Operand.tmp 12) (Operand.const (Value.bool true)) (Operand.tmp 15), guard := none }]).seq
        (IC.cond (Operand.tmp 16)
          ((IC.ops
                [{ dst := some 17, op := Op.call { callee := Callee.value (Operand.func 9), args := { toList := [] }, argTypes := { toList := [] } }, guard := none },
                  { dst := some 2, op := Op.assign (Operand.tmp 17), guard := none }]).seq
            IC.ret)
          IC.skip)).seq
    ((IC.ops [{ dst := some 3, op := Op.alloc 47, guard := none }]).seq
      ((IC.ops [{ dst := some 4, op := Op.assign (Operand.const (Value.slice none 0 0)), guard := none }]).seq
        (((IC.ops
                  [{ dst := some 18, op := Op.move (Operand.tmp 0), guard := none },
                    { dst := some 19, op := Op.call { callee := Callee.builtin Builtin.len, args := { toList := [Operand.tmp 18] }, argTypes := { toList := [53] } }, guard := none },
                    { dst := some 20, op := Op.move (Operand.const (Value.int IntKind.i64 (Int.ofNat 0))), guard := none }]).seq
              (IC.block 0
                ((IC.ops [{ dst := some 21, op := Op.binOp BinOp.lss 3 (Operand.tmp 20) (Operand.tmp 19) 3, guard := none }]).seq
                    ((IC.cond (Operand.tmp 21) IC.skip (IC.exit 0)).seq
                      ((IC.block 1
                            ((IC.ops [{ dst := some 22, op := Op.move (Operand.tmp 20), guard := none }, { dst := some 5, op := Op.assign (Operand.tmp 22), guard := none }]).seq
                              (((IC.ops
                                        [{ dst := some 23, op := Op.move (Operand.tmp 0), guard := none }, { dst := some 24, op := Op.move (Operand.tmp 5), guard := none },
                                          { dst := some 25, op := Op.indexAddr 53 (Operand.tmp 23) (Operand.tmp 24), guard := none },
                                          { dst := some 26, op := Op.fieldAddr 55 (Operand.tmp 25) 3, guard := none }, { dst := some 27, op := Op.load 23 (Operand.tmp 26), guard := none },
                                          { dst := some 28, op := Op.call { callee := Callee.value (Operand.func 10), args := { toList := [Operand.tmp 27] }, argTypes := { toList := [23] } },
                                            guard := none },
                                          { dst := some 29, op := Op.unOp UnOp.not 4 (Operand.tmp 28), guard := none }]).seq
                                    (IC.cond (Operand.tmp 29) ((IC.ops [{ dst := some 2, op := Op.assign (Operand.const (Value.bool true)), guard := none }]).seq IC.ret) IC.skip)).seq
                                ((IC.ops [{ dst := some 6, op := Op.assign (Operand.const (Value.bool false)), guard := none }]).seq
                                  (((IC.ops
                                            [{ dst := some 30, op := Op.move (Operand.tmp 0), guard := none }, { dst := some 31, op := Op.move (Operand.tmp 5), guard := none },
                                              { dst := some 32, op := Op.indexAddr 53 (Operand.tmp 30) (Operand.tmp 31), guard := none },
                                              { dst := some 33, op := Op.fieldAddr 55 (Operand.tmp 32) 0, guard := none }, { dst := some 34, op := Op.load 3 (Operand.tmp 33), guard := none }]).seq
                                        (IC.block 2
                                          ((IC.ops
                                                [{ dst := some 54, op := Op.binOp BinOp.eql 3 (Operand.tmp 34) (Operand.const (Value.int IntKind.i64 (Int.ofNat 0))) 3, guard := none },
                                                  { dst := some 53, op := Op.assign (Operand.tmp 54), guard := none }]).seq
                                            (IC.cond (Operand.tmp 53)
                                              ((IC.opsD
                                                    [{ dst := some 55, op := Op.move (Operand.tmp 0), guard := none }, { dst := some 56, op := Op.move (Operand.tmp 5), guard := none },
                                                      { dst := some 57, op := Op.indexAddr 53 (Operand.tmp 55) (Operand.tmp 56), guard := none, bef := [0, 1] },
                                                      { dst := some 58, op := Op.fieldAddr 55 (Operand.tmp 57) 1, guard := none, bef := [2, 0, 1] },
                                                      { dst := some 59, op := Op.load 22 (Operand.tmp 58), guard := none, bef := [3, 2, 0, 1] },
                                                      { dst := some 60, op := Op.move (Operand.tmp 0), guard := none }, { dst := some 61, op := Op.move (Operand.tmp 5), guard := none },
                                                      { dst := some 62, op := Op.indexAddr 53 (Operand.tmp 60) (Operand.tmp 61), guard := none, bef := [5, 6] },
                                                      { dst := some 63, op := Op.fieldAddr 55 (Operand.tmp 62) 2, guard := none, bef := [7, 5, 6] },
                                                      { dst := some 64, op := Op.load 3 (Operand.tmp 63), guard := none, bef := [8, 7, 5, 6] },
                                                      { dst := some 65, op := Op.move (Operand.tmp 0), guard := none }, { dst := some 66, op := Op.move (Operand.tmp 5), guard := none },
                                                      { dst := some 67, op := Op.indexAddr 53 (Operand.tmp 65) (Operand.tmp 66), guard := none, bef := [10, 11] },
                                                      { dst := some 68, op := Op.fieldAddr 55 (Operand.tmp 67) 3, guard := none, bef := [12, 10, 11] },
                                                      { dst := some 69, op := Op.load 23 (Operand.tmp 68), guard := none, bef := [13, 12, 10, 11] },
                                                      { dst := some 70,
                                                        op :=
                                                          Op.call
                                                            { callee := Callee.value (Operand.func 12), args := { toList := [Operand.tmp 59, Operand.tmp 64, Operand.tmp 69] },
                                                              argTypes := { toList := [22, 3, 23] } },
                                                        guard := none, bef := [4, 3, 2, 0, 1, 9, 8, 7, 5, 6, 14, 13, 12, 10, 11] },
                                                      { dst := some 7, op := Op.alloc 32, guard := none },
                                                      { dst := none, op := Op.store 32 (Operand.tmp 7) (Operand.tmp 70), guard := none,
                                                        bef := [16, 15, 4, 3, 2, 0, 1, 9, 8, 7, 5, 6, 14, 13, 12, 10, 11] }]).seq
                                                (((IC.ops
                                                          [{ dst := some 71, op := Op.fieldAddr 32 (Operand.tmp 7) 0, guard := none },
                                                            { dst := some 72, op := Op.load 4 (Operand.tmp 71), guard := none }]).seq
                                                      (IC.cond (Operand.tmp 72)
                                                        (IC.ops
                                                          [{ dst := some 74, op := Op.move (Operand.tmp 4), guard := none }, { dst := some 75, op := Op.fieldAddr 32 (Operand.tmp 7) 1, guard := none },
                                                            { dst := some 76, op := Op.load 30 (Operand.tmp 75), guard := none },
                                                            { dst := some 77,
                                                              op :=
                                                                Op.call
                                                                  { callee := Callee.value (Operand.func 24), args := { toList := [Operand.tmp 74, Operand.tmp 76] },
                                                                    argTypes := { toList := [49, 30] } },
                                                              guard := none },
                                                            { dst := some 73, op := Op.move (Operand.tmp 77), guard := none }, { dst := some 78, op := Op.extract (Operand.tmp 73) 0, guard := none },
                                                            { dst := some 79, op := Op.extract (Operand.tmp 73) 1, guard := none }, { dst := some 4, op := Op.assign (Operand.tmp 78), guard := none },
                                                            { dst := some 6, op := Op.assign (Operand.tmp 79), guard := none }])
                                                        IC.skip)).seq
                                                  ((IC.opsD
                                                        [{ dst := some 80, op := Op.move (Operand.tmp 0), guard := none }, { dst := some 81, op := Op.move (Operand.tmp 5), guard := none },
                                                          { dst := some 82, op := Op.indexAddr 53 (Operand.tmp 80) (Operand.tmp 81), guard := none, bef := [0, 1] },
                                                          { dst := some 83, op := Op.fieldAddr 55 (Operand.tmp 82) 1, guard := none, bef := [2, 0, 1] },
                                                          { dst := some 84, op := Op.load 22 (Operand.tmp 83), guard := none, bef := [3, 2, 0, 1] },
                                                          { dst := some 85, op := Op.move (Operand.tmp 0), guard := none }, { dst := some 86, op := Op.move (Operand.tmp 5), guard := none },
                                                          { dst := some 87, op := Op.indexAddr 53 (Operand.tmp 85) (Operand.tmp 86), guard := none, bef := [5, 6] },
                                                          { dst := some 88, op := Op.fieldAddr 55 (Operand.tmp 87) 2, guard := none, bef := [7, 5, 6] },
                                                          { dst := some 89, op := Op.load 3 (Operand.tmp 88), guard := none, bef := [8, 7, 5, 6] },
                                                          { dst := some 90, op := Op.move (Operand.tmp 0), guard := none }, { dst := some 91, op := Op.move (Operand.tmp 5), guard := none },
                                                          { dst := some 92, op := Op.indexAddr 53 (Operand.tmp 90) (Operand.tmp 91), guard := none, bef := [10, 11] },
                                                          { dst := some 93, op := Op.fieldAddr 55 (Operand.tmp 92) 3, guard := none, bef := [12, 10, 11] },
                                                          { dst := some 94, op := Op.load 23 (Operand.tmp 93), guard := none, bef := [13, 12, 10, 11] },
                                                          { dst := some 95,
                                                            op :=
                                                              Op.call
                                                                { callee := Callee.value (Operand.func 11), args := { toList := [Operand.tmp 84, Operand.tmp 89, Operand.tmp 94] },
                                                                  argTypes := { toList := [22, 3, 23] } },
                                                            guard := none, bef := [4, 3, 2, 0, 1, 9, 8, 7, 5, 6, 14, 13, 12, 10, 11] },
                                                          { dst := some 96,
                                                            op :=
                                                              Op.call
                                                                { callee := Callee.value (Operand.func 20), args := { toList := [Operand.tmp 3, Operand.tmp 95] }, argTypes := { toList := [47, 27] } },
                                                            guard := none, bef := [15, 4, 3, 2, 0, 1, 9, 8, 7, 5, 6, 14, 13, 12, 10, 11] },
                                                          { dst := some 97, op := Op.move (Operand.tmp 6), guard := none },
                                                          { dst := some 98, op := Op.binOp BinOp.neq 4 (Operand.tmp 96) (Operand.tmp 97) 4, guard := none,
                                                            bef := [16, 15, 4, 3, 2, 0, 1, 9, 8, 7, 5, 6, 14, 13, 12, 10, 11, 17] }]).seq
                                                    (IC.cond (Operand.tmp 98) ((IC.ops [{ dst := some 2, op := Op.assign (Operand.const (Value.bool false)), guard := none }]).seq IC.ret) IC.skip))))
                                              ((IC.ops
                                                    [{ dst := some 100, op := Op.binOp BinOp.eql 3 (Operand.tmp 34) (Operand.const (Value.int IntKind.i64 (Int.ofNat 1))) 3, guard := none },
                                                      { dst := some 99, op := Op.assign (Operand.tmp 100), guard := none }]).seq
                                                (IC.cond (Operand.tmp 99)
                                                  ((IC.opsD
                                                        [{ dst := some 101, op := Op.move (Operand.tmp 0), guard := none }, { dst := some 102, op := Op.move (Operand.tmp 5), guard := none },
                                                          { dst := some 103, op := Op.indexAddr 53 (Operand.tmp 101) (Operand.tmp 102), guard := none, bef := [0, 1] },
                                                          { dst := some 104, op := Op.fieldAddr 55 (Operand.tmp 103) 1, guard := none, bef := [2, 0, 1] },
                                                          { dst := some 105, op := Op.load 22 (Operand.tmp 104), guard := none, bef := [3, 2, 0, 1] },
                                                          { dst := some 106,
                                                            op :=
                                                              Op.call
                                                                { callee := Callee.value (Operand.func 22), args := { toList := [Operand.tmp 3, Operand.tmp 105] },
                                                                  argTypes := { toList := [47, 22] } },
                                                            guard := none, bef := [4, 3, 2, 0, 1] },
                                                          { dst := some 107, op := Op.move (Operand.tmp 4), guard := none }, { dst := some 108, op := Op.move (Operand.tmp 0), guard := none },
                                                          { dst := some 109, op := Op.move (Operand.tmp 5), guard := none },
                                                          { dst := some 110, op := Op.indexAddr 53 (Operand.tmp 108) (Operand.tmp 109), guard := none, bef := [7, 8] },
                                                          { dst := some 111, op := Op.fieldAddr 55 (Operand.tmp 110) 1, guard := none, bef := [9, 7, 8] },
                                                          { dst := some 112, op := Op.load 22 (Operand.tmp 111), guard := none, bef := [10, 9, 7, 8] },
                                                          { dst := some 113,
                                                            op :=
                                                              Op.call
                                                                { callee := Callee.value (Operand.func 25), args := { toList := [Operand.tmp 107, Operand.tmp 112] },
                                                                  argTypes := { toList := [49, 22] } },
                                                            guard := none, bef := [6, 11, 10, 9, 7, 8, 5, 4, 3, 2, 0, 1] },
                                                          { dst := some 114, op := Op.binOp BinOp.neq 4 (Operand.tmp 106) (Operand.tmp 113) 4, guard := none,
                                                            bef := [5, 4, 3, 2, 0, 1, 12, 6, 11, 10, 9, 7, 8] }]).seq
                                                    (IC.cond (Operand.tmp 114) ((IC.ops [{ dst := some 2, op := Op.assign (Operand.const (Value.bool false)), guard := none }]).seq IC.ret) IC.skip))
                                                  ((IC.ops
                                                        [{ dst := some 36, op := Op.move (Operand.tmp 4), guard := none }, { dst := some 37, op := Op.move (Operand.tmp 0), guard := none },
                                                          { dst := some 38, op := Op.move (Operand.tmp 5), guard := none },
                                                          { dst := some 39, op := Op.indexAddr 53 (Operand.tmp 37) (Operand.tmp 38), guard := none },
                                                          { dst := some 40, op := Op.fieldAddr 55 (Operand.tmp 39) 1, guard := none },
                                                          { dst := some 41, op := Op.load 22 (Operand.tmp 40), guard := none },
                                                          { dst := some 42,
                                                            op :=
                                                              Op.call
                                                                { callee := Callee.value (Operand.func 26), args := { toList := [Operand.tmp 36, Operand.tmp 41] },
                                                                  argTypes := { toList := [49, 22] } },
                                                            guard := none },
                                                          { dst := some 35, op := Op.move (Operand.tmp 42), guard := none }, { dst := some 43, op := Op.extract (Operand.tmp 35) 0, guard := none },
                                                          { dst := some 44, op := Op.extract (Operand.tmp 35) 1, guard := none }, { dst := some 4, op := Op.assign (Operand.tmp 43), guard := none },
                                                          { dst := some 6, op := Op.assign (Operand.tmp 44), guard := none }]).seq
                                                    ((IC.ops
                                                          [{ dst := some 45, op := Op.move (Operand.tmp 0), guard := none }, { dst := some 46, op := Op.move (Operand.tmp 5), guard := none },
                                                            { dst := some 47, op := Op.indexAddr 53 (Operand.tmp 45) (Operand.tmp 46), guard := none },
                                                            { dst := some 48, op := Op.fieldAddr 55 (Operand.tmp 47) 1, guard := none },
                                                            { dst := some 49, op := Op.load 22 (Operand.tmp 48), guard := none },
                                                            { dst := some 50,
                                                              op :=
                                                                Op.call
                                                                  { callee := Callee.value (Operand.func 27), args := { toList := [Operand.tmp 3, Operand.tmp 49] },
                                                                    argTypes := { toList := [47, 22] } },
                                                              guard := none },
                                                            { dst := some 51, op := Op.move (Operand.tmp 6), guard := none },
                                                            { dst := some 52, op := Op.binOp BinOp.neq 4 (Operand.tmp 50) (Operand.tmp 51) 4, guard := none }]).seq
                                                      (IC.cond (Operand.tmp 52) ((IC.ops [{ dst := some 2, op := Op.assign (Operand.const (Value.bool false)), guard := none }]).seq IC.ret)
                                                        IC.skip))))))))).seq
                                    ((IC.ops
                                          [{ dst := some 116, op := Op.call { callee := Callee.value (Operand.func 28), args := { toList := [Operand.tmp 3] }, argTypes := { toList := [47] } },
                                              guard := none },
                                            { dst := some 117, op := Op.call { callee := Callee.value (Operand.func 13), args := { toList := [Operand.tmp 116] }, argTypes := { toList := [27] } },
                                              guard := none },
                                            { dst := some 115, op := Op.move (Operand.tmp 117), guard := none }, { dst := some 118, op := Op.extract (Operand.tmp 115) 0, guard := none },
                                            { dst := some 119, op := Op.extract (Operand.tmp 115) 1, guard := none }, { dst := some 8, op := Op.alloc 30, guard := none },
                                            { dst := none, op := Op.store 30 (Operand.tmp 8) (Operand.tmp 118), guard := none },
                                            { dst := some 9, op := Op.assign (Operand.tmp 119), guard := none }]).seq
                                      ((IC.opsD
                                            [{ dst := some 120, op := Op.call { callee := Callee.value (Operand.func 21), args := { toList := [Operand.tmp 3] }, argTypes := { toList := [47] } },
                                                guard := none },
                                              { dst := some 121, op := Op.move (Operand.tmp 4), guard := none },
                                              { dst := some 122,
                                                op :=
                                                  Op.call { callee := Callee.value (Operand.func 23), args := { toList := [Operand.tmp 120, Operand.tmp 121] }, argTypes := { toList := [49, 49] } },
                                                guard := none, bef := [0, 1] },
                                              { dst := some 123, op := Op.unOp UnOp.not 4 (Operand.tmp 122), guard := none, bef := [2, 0, 1] },
                                              { dst := some 124, op := Op.move (Operand.tmp 123), guard := none, bef := [3, 2, 0, 1] },
                                              { dst := some 125, op := Op.move (Operand.tmp 9), guard := some (some 124, false), bef := [4, 3, 2, 0, 1] },
                                              { dst := some 126, op := Op.move (Operand.tmp 4), guard := some (some 124, false), bef := [4, 3, 2, 0, 1] },
                                              { dst := some 127, op := Op.call { callee := Callee.builtin Builtin.len, args := { toList := [Operand.tmp 126] }, argTypes := { toList := [49] } },
                                                guard := some (some 124, false), bef := [6, 4, 3, 2, 0, 1] },
                                              { dst := some 128, op := Op.binOp BinOp.gtr 3 (Operand.tmp 127) (Operand.const (Value.int IntKind.i64 (Int.ofNat 0))) 3, guard := some (some 124, false),
                                                bef := [7, 6, 4, 3, 2, 0, 1] },
                                              { dst := some 129, op := Op.binOp BinOp.neq 4 (Operand.tmp 125) (Operand.tmp 128) 4, guard := some (some 124, false),
                                                bef := [5, 4, 3, 2, 0, 1, 8, 7, 6] },
                                              { dst := some 130, op := Op.pick (Operand.tmp 124) (Operand.const (Value.bool true)) (Operand.tmp 129), guard := none,
                                                bef := [4, 3, 2, 0, 1, 9, 5, 8, 7, 6] },
                                              { dst := some 131, op := Op.move (Operand.tmp 130), guard := none, bef := [10, 4, 3, 2, 0, 1, 9, 5, 8, 7, 6] },
                                              { dst := some 132, op := Op.move (Operand.tmp 9), guard := some (some 131, false), bef := [11, 10, 4, 3, 2, 0, 1, 9, 5, 8, 7, 6] },
                                              { dst := some 133, op := Op.move (Operand.tmp 132), guard := some (some 131, false), bef := [12, 11, 10, 4, 3, 2, 0, 1, 9, 5, 8, 7, 6] },
                                              { dst := some 134, op := Op.load 30 (Operand.tmp 8), guard := some (some 133, true), bef := [13, 12, 11, 10, 4, 3, 2, 0, 1, 9, 5, 8, 7, 6] },
                                              { dst := some 135, op := Op.move (Operand.tmp 4), guard := some (some 133, true), bef := [13, 12, 11, 10, 4, 3, 2, 0, 1, 9, 5, 8, 7, 6] },
                                              { dst := some 136, op := Op.indexAddr 49 (Operand.tmp 135) (Operand.const (Value.int IntKind.i64 (Int.ofNat 0))), guard := some (some 133, true),
                                                bef := [15, 13, 12, 11, 10, 4, 3, 2, 0, 1, 9, 5, 8, 7, 6] },
                                              { dst := some 137, op := Op.load 30 (Operand.tmp 136), guard := some (some 133, true), bef := [16, 15, 13, 12, 11, 10, 4, 3, 2, 0, 1, 9, 5, 8, 7, 6] },
                                              { dst := some 138, op := Op.binOp BinOp.neq 30 (Operand.tmp 134) (Operand.tmp 137) 30, guard := some (some 133, true),
                                                bef := [14, 13, 12, 11, 10, 4, 3, 2, 0, 1, 9, 5, 8, 7, 6, 17, 16, 15] },
                                              { dst := some 139, op := Op.pick (Operand.tmp 133) (Operand.tmp 138) (Operand.const (Value.bool false)), guard := some (some 131, false),
                                                bef := [13, 12, 11, 10, 4, 3, 2, 0, 1, 9, 5, 8, 7, 6, 18, 14, 17, 16, 15] },
                                              { dst := some 140, op := Op.pick (Operand.tmp 131) (Operand.const (Value.bool true)) (Operand.tmp 139), guard := none,
                                                bef := [11, 10, 4, 3, 2, 0, 1, 9, 5, 8, 7, 6, 19, 13, 12, 18, 14, 17, 16, 15] }]).seq
                                        (IC.cond (Operand.tmp 140) ((IC.ops [{ dst := some 2, op := Op.assign (Operand.const (Value.bool false)), guard := none }]).seq IC.ret) IC.skip)))))))).seq
                        (IC.ops
                          [{ dst := some 141, op := Op.binOp BinOp.add 3 (Operand.tmp 20) (Operand.const (Value.int IntKind.i64 (Int.ofNat 1))) 3, guard := none },
                            { dst := some 20, op := Op.move (Operand.tmp 141), guard := none }])))).loop)).seq
          ((IC.ops [{ dst := some 2, op := Op.assign (Operand.const (Value.bool true)), guard := none }]).seq IC.ret)))))
theorem ic6_eq : Tryd.f6.body.map comp = some ic6 := by kernel_rfl
theorem ic6_ok : Tryd.f6.body.map (okC Tryd.f6.ntmps) = some true := by kernel_rfl
theorem ic6_nm : (Tryd.f6.name != "runtime.NumGoroutine") = true := by kernel_rfl
@[simp] theorem ic6_n : Tryd.f6.ntmps = 142 := by kernel_rfl
@[simp] theorem ic6_r : Tryd.f6.results.toList = [ResultVar.tmp 2] := by kernel_rfl

def ic7 : IC :=
  (IC.ops [{ dst := some 8, op := Op.assign (Operand.const (Value.bool false)), guard := none }]).seq
  (((IC.ops
            [{ dst := some 16, op := Op.call { callee := Callee.value (Operand.func 9), args := { toList := [] }, argTypes := { toList := [] } }, guard := none },
              { dst := some 17, op := Op.unOp UnOp.not 4 (Operand.tmp 16), guard := none }, { dst := some 18, op := Op.move (Operand.tmp 17), guard := none },
              { dst := some 19, op := Op.move (Operand.tmp 0), guard := some (some 18, false) },
              { dst := some 20, op := Op.call { callee := Callee.value (Operand.func 19), args := { toList := [Operand.tmp 19] }, argTypes := { toList := [22] } }, guard := some (some 18, false) },
              { dst := some 21, op := Op.unOp UnOp.not 4 (Operand.tmp 20), guard := some (some 18, false) },
              { dst := some 22, op := Op.pick (Operand.tmp 18) (Operand.const (Value.bool true)) (Operand.tmp 21), guard := none }, { dst := some 23, op := Op.move (Operand.tmp 22), guard := none },
              { dst := some 24, op := Op.move (Operand.tmp 1), guard := some (some 23, false) },
              { dst := some 25, op := Op.call { callee := Callee.value (Operand.func 19), args := { toList := [Operand.tmp 24] }, argTypes := { toList := [22] } }, guard := some (some 23, false) },
              { dst := some 26, op := Op.unOp UnOp.not 4 (Operand.tmp 25), guard := some (some 23, false) },
              { dst := some 27, op := Op.pick (Operand.tmp 23) (Operand.const (Value.bool true)) (Operand.tmp 26), guard := none }]).seq
        (IC.cond (Operand.tmp 27)
          ((IC.ops
                [{ dst := some 28, op := Op.call { callee := Callee.value (Operand.func 9), args := { toList := [] }, argTypes := { toList := [] } }, guard := none },
                  { dst := some 8, op := Op.assign (Operand.tmp 28), guard := none }]).seq
            IC.ret)
          IC.skip)).seq
    ((IC.ops [{ dst := some 9, op := Op.alloc 47, guard := none }]).seq
      ((IC.ops
            [{ dst := some 29, op := Op.move (Operand.tmp 0), guard := none }, { dst := some 30, op := Op.move (Operand.tmp 2), guard := none },
              { dst := some 31, op := Op.call { callee := Callee.value (Operand.func 17), args := { toList := [Operand.tmp 29, Operand.tmp 30] }, argTypes := { toList := [22, 3] } }, guard := none },
              { dst := some 32, op := Op.call { callee := Callee.value (Operand.func 20), args := { toList := [Operand.tmp 9, Operand.tmp 31] }, argTypes := { toList := [47, 27] } }, guard := none },
              { dst := some 10, op := Op.assign (Operand.tmp 32), guard := none }]).seq
        ((IC.ops
              [{ dst := some 33, op := Op.call { callee := Callee.value (Operand.func 21), args := { toList := [Operand.tmp 9] }, argTypes := { toList := [47] } }, guard := none },
                { dst := some 11, op := Op.assign (Operand.tmp 33), guard := none }]).seq
          ((IC.ops
                [{ dst := some 34, op := Op.move (Operand.tmp 0), guard := none }, { dst := some 35, op := Op.move (Operand.tmp 3), guard := none },
                  { dst := some 36, op := Op.call { callee := Callee.value (Operand.func 17), args := { toList := [Operand.tmp 34, Operand.tmp 35] }, argTypes := { toList := [22, 3] } },
                    guard := none },
                  { dst := some 37, op := Op.call { callee := Callee.value (Operand.func 20), args := { toList := [Operand.tmp 9, Operand.tmp 36] }, argTypes := { toList := [47, 27] } },
                    guard := none },
                  { dst := some 12, op := Op.assign (Operand.tmp 37), guard := none }]).seq
            ((IC.ops
                  [{ dst := some 38, op := Op.move (Operand.tmp 11), guard := none },
                    { dst := some 39, op := Op.call { callee := Callee.value (Operand.func 21), args := { toList := [Operand.tmp 9] }, argTypes := { toList := [47] } }, guard := none },
                    { dst := some 40, op := Op.call { callee := Callee.value (Operand.func 23), args := { toList := [Operand.tmp 38, Operand.tmp 39] }, argTypes := { toList := [49, 49] } },
                      guard := none },
                    { dst := some 13, op := Op.assign (Operand.tmp 40), guard := none }]).seq
              ((IC.ops
                    [{ dst := some 41, op := Op.move (Operand.tmp 1), guard := none }, { dst := some 42, op := Op.move (Operand.tmp 3), guard := none },
                      { dst := some 43, op := Op.call { callee := Callee.value (Operand.func 17), args := { toList := [Operand.tmp 41, Operand.tmp 42] }, argTypes := { toList := [22, 3] } },
                        guard := none },
                      { dst := some 44, op := Op.call { callee := Callee.value (Operand.func 20), args := { toList := [Operand.tmp 9, Operand.tmp 43] }, argTypes := { toList := [47, 27] } },
                        guard := none },
                      { dst := some 14, op := Op.assign (Operand.tmp 44), guard := none }]).seq
                ((IC.ops
                      [{ dst := some 45, op := Op.move (Operand.tmp 0), guard := none },
                        { dst := some 46, op := Op.call { callee := Callee.value (Operand.func 27), args := { toList := [Operand.tmp 9, Operand.tmp 45] }, argTypes := { toList := [47, 22] } },
                          guard := none },
                        { dst := some 15, op := Op.assign (Operand.tmp 46), guard := none }]).seq
                  ((IC.ops
                        [{ dst := some 47, op := Op.move (Operand.tmp 10), guard := none }, { dst := some 48, op := Op.move (Operand.tmp 47), guard := none },
                          { dst := some 49, op := Op.move (Operand.tmp 12), guard := some (some 48, true) },
                          { dst := some 50, op := Op.unOp UnOp.not 4 (Operand.tmp 49), guard := some (some 48, true) },
                          { dst := some 51, op := Op.pick (Operand.tmp 48) (Operand.tmp 50) (Operand.const (Value.bool false)), guard := none },
                          { dst := some 52, op := Op.move (Operand.tmp 51), guard := none }, { dst := some 53, op := Op.move (Operand.tmp 13), guard := some (some 52, true) },
                          { dst := some 54, op := Op.pick (Operand.tmp 52) (Operand.tmp 53) (Operand.const (Value.bool false)), guard := none },
                          { dst := some 55, op := Op.move (Operand.tmp 54), guard := none }, { dst := some 56, op := Op.move (Operand.tmp 14), guard := some (some 55, true) },
                          { dst := some 57, op := Op.move (Operand.tmp 1), guard := some (some 55, true) }, { dst := some 58, op := Op.move (Operand.tmp 0), guard := some (some 55, true) },
                          { dst := some 59, op := Op.binOp BinOp.neq 22 (Operand.tmp 57) (Operand.tmp 58) 22, guard := some (some 55, true) },
                          { dst := some 60, op := Op.binOp BinOp.eql 4 (Operand.tmp 56) (Operand.tmp 59) 4, guard := some (some 55, true) },
                          { dst := some 61, op := Op.pick (Operand.tmp 55) (Operand.tmp 60) (Operand.const (Value.bool false)), guard := none },
                          { dst := some 62, op := Op.move (Operand.tmp 61), guard := none }, { dst := some 63, op := Op.move (Operand.tmp 15), guard := some (some 62, true) },
                          { dst := some 64, op := Op.pick (Operand.tmp 62) (Operand.tmp 63) (Operand.const (Value.bool false)), guard := none },
                          { dst := some 65, op := Op.move (Operand.tmp 64), guard := none }, { dst := some 66, op := Op.move (Operand.tmp 0), guard := some (some 65, true) },
                          { dst := some 67, op := Op.call { callee := Callee.value (Operand.func 22), args := { toList := [Operand.tmp 9, Operand.tmp 66] }, argTypes := { toList := [47, 22] } },
                            guard := some (some 65, true) },
                          { dst := some 68, op := Op.unOp UnOp.not 4 (Operand.tmp 67), guard := some (some 65, true) },
                          { dst := some 69, op := Op.pick (Operand.tmp 65) (Operand.tmp 68) (Operand.const (Value.bool false)), guard := none },
                          { dst := some 70, op := Op.move (Operand.tmp 69), guard := none }, { dst := some 71, op := Op.move (Operand.tmp 1), guard := some (some 70, true) },
                          { dst := some 72, op := Op.call { callee := Callee.value (Operand.func 22), args := { toList := [Operand.tmp 9, Operand.tmp 71] }, argTypes := { toList := [47, 22] } },
                            guard := some (some 70, true) },
                          { dst := some 73, op := Op.move (Operand.tmp 1), guard := some (some 70, true) }, { dst := some 74, op := Op.move (Operand.tmp 0), guard := some (some 70, true) },
                          { dst := some 75, op := Op.binOp BinOp.neq 22 (Operand.tmp 73) (Operand.tmp 74) 22, guard := some (some 70, true) },
                          { dst := some 76, op := Op.binOp BinOp.eql 4 (Operand.tmp 72) (Operand.tmp 75) 4, guard := some (some 70, true) },
                          { dst := some 77, op := Op.pick (Operand.tmp 70) (Operand.tmp 76) (Operand.const (Value.bool false)), guard := none },
                          { dst := some 78, op := Op.move (Operand.tmp 77), guard := none }, { dst := some 79, op := Op.move (Operand.tmp 0), guard := some (some 78, true) },
                          { dst := some 80, op := Op.call { callee := Callee.value (Operand.func 27), args := { toList := [Operand.tmp 9, Operand.tmp 79] }, argTypes := { toList := [47, 22] } },
                            guard := some (some 78, true) },
                          { dst := some 81, op := Op.unOp UnOp.not 4 (Operand.tmp 80), guard := some (some 78, true) },
                          { dst := some 82, op := Op.pick (Operand.tmp 78) (Operand.tmp 81) (Operand.const (Value.bool false)), guard := none },
                          { dst := some 8, op := Op.assign (Operand.tmp 82), guard := none }]).seq
                    IC.ret)))))))))
theorem ic7_eq : Tryd.f7.body.map comp = some ic7 := by kernel_rfl
theorem ic7_ok : Tryd.f7.body.map (okC Tryd.f7.ntmps) = some true := by kernel_rfl
theorem ic7_nm : (Tryd.f7.name != "runtime.NumGoroutine") = true := by kernel_rfl
@[simp] theorem ic7_n : Tryd.f7.ntmps = 83 := by kernel_rfl
@[simp] theorem ic7_r : Tryd.f7.results.toList = [ResultVar.tmp 8] := by kernel_rfl

def ic8 : IC :=
  (IC.ops [{ dst := some 4, op := Op.assign (Operand.const (Value.bool false)), guard := none }]).seq
  (((IC.ops
            [{ dst := some 10, op := Op.call { callee := Callee.value (Operand.func 9), args := { toList := [] }, argTypes := { toList := [] } }, guard := none },
              { dst := some 11, op := Op.unOp UnOp.not 4 (Operand.tmp 10), guard := none }, { dst := some 12, op := Op.move (Operand.tmp 11), guard := none },
              { dst := some 13, op := Op.move (Operand.tmp 0), guard := some (some 12, false) },
              { dst := some 14, op := Op.call { callee := Callee.builtin Builtin.len, args := { toList := [Operand.tmp 13] }, argTypes := { toList := [44] } }, guard := some (some 12, false) },
              { dst := some 15, op := Op.binOp BinOp.gtr 3 (Operand.tmp 14) (Operand.const (Value.int IntKind.i64 (Int.ofNat 30))) 3, guard := some (some 12, false) },
              { dst := some 16, op := Op.pick (Operand.tmp 12) (Operand.const (Value.bool true)) (Operand.tmp 15), guard := none }]).seq
        (IC.cond (Operand.tmp 16)
          ((IC.ops
                [{ dst := some 17, op := Op.call { callee := Callee.value (Operand.func 9), args := { toList := [] }, argTypes := { toList := [] } }, guard := none },
                  { dst := some 4, op := Op.assign (Operand.tmp 17), guard := none }]).seq
            IC.ret)
          IC.skip)).seq
    ((IC.ops [{ dst := some 5, op := Op.alloc 47, guard := none }]).seq
      (((IC.ops
                [{ dst := some 18, op := Op.move (Operand.tmp 0), guard := none },
                  { dst := some 19, op := Op.call { callee := Callee.builtin Builtin.len, args := { toList := [Operand.tmp 18] }, argTypes := { toList := [44] } }, guard := none },
                  { dst := some 20, op := Op.move (Operand.const (Value.int IntKind.i64 (Int.ofNat 0))), guard := none }]).seq
            (IC.block 0
              ((IC.ops [{ dst := some 21, op := Op.binOp BinOp.lss 3 (Operand.tmp 20) (Operand.tmp 19) 3, guard := none }]).seq
                  ((IC.cond (Operand.tmp 21) IC.skip (IC.exit 0)).seq
                    ((IC.block 1
                          ((IC.ops [{ dst := some 22, op := Op.move (Operand.tmp 20), guard := none }, { dst := some 6, op := Op.assign (Operand.tmp 22), guard := none }]).seq
                            (IC.ops
                              [{ dst := some 23, op := Op.move (Operand.tmp 0), guard := none }, { dst := some 24, op := Op.move (Operand.tmp 6), guard := none },
                                { dst := some 25, op := Op.indexAddr 44 (Operand.tmp 23) (Operand.tmp 24), guard := none }, { dst := some 26, op := Op.load 22 (Operand.tmp 25), guard := none },
                                { dst := some 27, op := Op.move (Operand.tmp 1), guard := none },
                                { dst := some 28, op := Op.call { callee := Callee.value (Operand.func 17), args := { toList := [Operand.tmp 26, Operand.tmp 27] }, argTypes := { toList := [22, 3] } },
                                  guard := none },
                                { dst := some 29, op := Op.call { callee := Callee.value (Operand.func 20), args := { toList := [Operand.tmp 5, Operand.tmp 28] }, argTypes := { toList := [47, 27] } },
                                  guard := none }]))).seq
                      (IC.ops
                        [{ dst := some 30, op := Op.binOp BinOp.add 3 (Operand.tmp 20) (Operand.const (Value.int IntKind.i64 (Int.ofNat 1))) 3, guard := none },
                          { dst := some 20, op := Op.move (Operand.tmp 30), guard := none }])))).loop)).seq
        (((IC.ops [{ dst := some 7, op := Op.assign (Operand.const (Value.int IntKind.i64 (Int.negSucc 1))), guard := none }]).seq
              (IC.block 2
                (((IC.ops
                            [{ dst := some 31, op := Op.move (Operand.tmp 7), guard := none },
                              { dst := some 32, op := Op.binOp BinOp.lss 22 (Operand.tmp 31) (Operand.const (Value.int IntKind.i64 (Int.ofNat 20))) 22, guard := none }]).seq
                        (IC.cond (Operand.tmp 32) IC.skip (IC.exit 2))).seq
                    ((IC.block 3
                          ((IC.ops
                                [{ dst := some 35, op := Op.move (Operand.tmp 7), guard := none },
                                  { dst := some 36,
                                    op := Op.call { callee := Callee.value (Operand.func 22), args := { toList := [Operand.tmp 5, Operand.tmp 35] }, argTypes := { toList := [47, 22] } },
                                    guard := none },
                                  { dst := some 8, op := Op.assign (Operand.tmp 36), guard := none }]).seq
                            ((IC.ops
                                  [{ dst := some 37, op := Op.move (Operand.tmp 7), guard := none },
                                    { dst := some 38,
                                      op := Op.call { callee := Callee.value (Operand.func 27), args := { toList := [Operand.tmp 5, Operand.tmp 37] }, argTypes := { toList := [47, 22] } },
                                      guard := none },
                                    { dst := some 39, op := Op.move (Operand.tmp 8), guard := none }, { dst := some 40, op := Op.binOp BinOp.neq 4 (Operand.tmp 38) (Operand.tmp 39) 4, guard := none },
                                    { dst := some 41, op := Op.move (Operand.tmp 40), guard := none }, { dst := some 42, op := Op.move (Operand.tmp 7), guard := some (some 41, false) },
                                    { dst := some 43,
                                      op := Op.call { callee := Callee.value (Operand.func 27), args := { toList := [Operand.tmp 5, Operand.tmp 42] }, argTypes := { toList := [47, 22] } },
                                      guard := some (some 41, false) },
                                    { dst := some 44, op := Op.pick (Operand.tmp 41) (Operand.const (Value.bool true)) (Operand.tmp 43), guard := none },
                                    { dst := some 45, op := Op.move (Operand.tmp 44), guard := none }, { dst := some 46, op := Op.move (Operand.tmp 7), guard := some (some 45, false) },
                                    { dst := some 47,
                                      op := Op.call { callee := Callee.value (Operand.func 22), args := { toList := [Operand.tmp 5, Operand.tmp 46] }, argTypes := { toList := [47, 22] } },
                                      guard := some (some 45, false) },
                                    { dst := some 48, op := Op.pick (Operand.tmp 45) (Operand.const (Value.bool true)) (Operand.tmp 47), guard := none }]).seq
                              (IC.cond (Operand.tmp 48) ((IC.ops [{ dst := some 4, op := Op.assign (Operand.const (Value.bool false)), guard := none }]).seq IC.ret) IC.skip)))).seq
                      (IC.ops
                        [{ dst := some 33, op := Op.move (Operand.tmp 7), guard := none },
                          { dst := some 34, op := Op.binOp BinOp.add 22 (Operand.tmp 33) (Operand.const (Value.int IntKind.i64 (Int.ofNat 1))) 22, guard := none },
                          { dst := some 7, op := Op.assign (Operand.tmp 34), guard := none }]))).loop)).seq
          (((IC.ops
                    [{ dst := some 49, op := Op.call { callee := Callee.value (Operand.func 21), args := { toList := [Operand.tmp 5] }, argTypes := { toList := [47] } }, guard := none },
                      { dst := some 50, op := Op.call { callee := Callee.builtin Builtin.len, args := { toList := [Operand.tmp 49] }, argTypes := { toList := [49] } }, guard := none },
                      { dst := some 51, op := Op.binOp BinOp.neq 3 (Operand.tmp 50) (Operand.const (Value.int IntKind.i64 (Int.ofNat 0))) 3, guard := none },
                      { dst := some 52, op := Op.move (Operand.tmp 51), guard := none },
                      { dst := some 53, op := Op.call { callee := Callee.value (Operand.func 28), args := { toList := [Operand.tmp 5] }, argTypes := { toList := [47] } },
                        guard := some (some 52, false) },
                      { dst := some 54, op := Op.binOp BinOp.neq 27 (Operand.tmp 53) (Operand.const Value.nilIface) 27, guard := some (some 52, false) },
                      { dst := some 55, op := Op.pick (Operand.tmp 52) (Operand.const (Value.bool true)) (Operand.tmp 54), guard := none }]).seq
                (IC.cond (Operand.tmp 55) ((IC.ops [{ dst := some 4, op := Op.assign (Operand.const (Value.bool false)), guard := none }]).seq IC.ret) IC.skip)).seq
            (((IC.ops [{ dst := some 9, op := Op.assign (Operand.const (Value.int IntKind.i64 (Int.ofNat 1))), guard := none }]).seq
                  (IC.block 4
                    (((IC.ops
                                [{ dst := some 56, op := Op.move (Operand.tmp 9), guard := none },
                                  { dst := some 57, op := Op.binOp BinOp.leq 22 (Operand.tmp 56) (Operand.const (Value.int IntKind.i64 (Int.ofNat 11))) 22, guard := none }]).seq
                            (IC.cond (Operand.tmp 57) IC.skip (IC.exit 4))).seq
                        ((IC.block 5
                              ((IC.ops
                                    [{ dst := some 60, op := Op.move (Operand.tmp 9), guard := none }, { dst := some 61, op := Op.move (Operand.tmp 1), guard := none },
                                      { dst := some 62,
                                        op := Op.call { callee := Callee.value (Operand.func 17), args := { toList := [Operand.tmp 60, Operand.tmp 61] }, argTypes := { toList := [22, 3] } },
                                        guard := none },
                                      { dst := some 63,
                                        op := Op.call { callee := Callee.value (Operand.func 20), args := { toList := [Operand.tmp 5, Operand.tmp 62] }, argTypes := { toList := [47, 27] } },
                                        guard := none },
                                      { dst := some 64, op := Op.unOp UnOp.not 4 (Operand.tmp 63), guard := none }]).seq
                                (IC.cond (Operand.tmp 64) ((IC.ops [{ dst := some 4, op := Op.assign (Operand.const (Value.bool false)), guard := none }]).seq IC.ret) IC.skip))).seq
                          (IC.ops
                            [{ dst := some 58, op := Op.move (Operand.tmp 9), guard := none },
                              { dst := some 59, op := Op.binOp BinOp.add 22 (Operand.tmp 58) (Operand.const (Value.int IntKind.i64 (Int.ofNat 1))) 22, guard := none },
                              { dst := some 9, op := Op.assign (Operand.tmp 59), guard := none }]))).loop)).seq
              ((IC.ops
                    [{ dst := some 65, op := Op.call { callee := Callee.value (Operand.func 21), args := { toList := [Operand.tmp 5] }, argTypes := { toList := [47] } }, guard := none },
                      { dst := some 66, op := Op.call { callee := Callee.builtin Builtin.len, args := { toList := [Operand.tmp 65] }, argTypes := { toList := [49] } }, guard := none },
                      { dst := some 67, op := Op.binOp BinOp.eql 3 (Operand.tmp 66) (Operand.const (Value.int IntKind.i64 (Int.ofNat 11))) 3, guard := none },
                      { dst := some 4, op := Op.assign (Operand.tmp 67), guard := none }]).seq
                IC.ret)))))))
theorem ic8_eq : Tryd.f8.body.map comp = some ic8 := by kernel_rfl
theorem ic8_ok : Tryd.f8.body.map (okC Tryd.f8.ntmps) = some true := by kernel_rfl
theorem ic8_nm : (Tryd.f8.name != "runtime.NumGoroutine") = true := by kernel_rfl
@[simp] theorem ic8_n : Tryd.f8.ntmps = 68 := by kernel_rfl
@[simp] theorem ic8_r : Tryd.f8.results.toList = [ResultVar.tmp 4] := by kernel_rfl

def ic9 : IC :=
  (IC.ops [{ dst := some 0, op := Op.assign (Operand.const (Value.bool false)), guard := none }]).seq
  ((IC.ops
        [{ dst := some 5,
            op :=
              Op.call
                { callee := Callee.value (Operand.func 17), args := { toList := [Operand.const (Value.int IntKind.i64 (Int.ofNat 6)), Operand.const (Value.int IntKind.i64 (Int.ofNat 5))] },
                  argTypes := { toList := [22, 3] } },
            guard := none },
          { dst := some 6,
            op :=
              Op.call
                { callee := Callee.value (Operand.func 18),
                  args :=
                    {
                      toList :=
                        [Operand.const
                            (Value.string
                              {
                                data :=
                                  {
                                    toList :=
                                      [100, 114, 105, 118,
                                        101] } }),
                          Operand.tmp 5] },
                  argTypes := { toList := [9, 27] } },
            guard := none },
          { dst := some 1, op := Op.assign (Operand.tmp 6), guard := none }]).seq
    ((IC.ops
          [{ dst := some 8, op := Op.move (Operand.tmp 1), guard := none },
            { dst := some 9, op := Op.call { callee := Callee.value (Operand.func 13), args := { toList := [Operand.tmp 8] }, argTypes := { toList := [27] } }, guard := none },
            { dst := some 7, op := Op.move (Operand.tmp 9), guard := none }, { dst := some 10, op := Op.extract (Operand.tmp 7) 0, guard := none },
            { dst := some 11, op := Op.extract (Operand.tmp 7) 1, guard := none }, { dst := some 2, op := Op.alloc 30, guard := none },
            { dst := none, op := Op.store 30 (Operand.tmp 2) (Operand.tmp 10), guard := none }, { dst := some 3, op := Op.assign (Operand.tmp 11), guard := none }]).seq
      ((IC.ops [{ dst := some 4, op := Op.alloc 47, guard := none }]).seq
        ((IC.ops
              [{ dst := some 12, op := Op.move (Operand.tmp 3), guard := none }, { dst := some 13, op := Op.move (Operand.tmp 12), guard := none },
                { dst := some 14, op := Op.fieldAddr 30 (Operand.tmp 2) 0, guard := some (some 13, true) }, { dst := some 15, op := Op.load 22 (Operand.tmp 14), guard := some (some 13, true) },
                { dst := some 16, op := Op.binOp BinOp.eql 22 (Operand.tmp 15) (Operand.const (Value.int IntKind.i64 (Int.ofNat 6))) 22, guard := some (some 13, true) },
                { dst := some 17, op := Op.pick (Operand.tmp 13) (Operand.tmp 16) (Operand.const (Value.bool false)), guard := none },
                { dst := some 18, op := Op.move (Operand.tmp 17), guard := none }, { dst := some 19, op := Op.move (Operand.tmp 1), guard := some (some 18, true) },
                { dst := some 20,
                  op :=
                    Op.call
                      { callee := Callee.value (Operand.func 14), args := { toList := [Operand.tmp 19, Operand.const (Value.int IntKind.i64 (Int.ofNat 6))] }, argTypes := { toList := [27, 22] } },
                  guard := some (some 18, true) },
                { dst := some 21, op := Op.pick (Operand.tmp 18) (Operand.tmp 20) (Operand.const (Value.bool false)), guard := none },
                { dst := some 22, op := Op.move (Operand.tmp 21), guard := none }, { dst := some 23, op := Op.move (Operand.tmp 1), guard := some (some 22, true) },
                { dst := some 24, op := Op.call { callee := Callee.value (Operand.func 15), args := { toList := [Operand.tmp 23] }, argTypes := { toList := [27] } }, guard := some (some 22, true) },
                { dst := some 25, op := Op.call { callee := Callee.builtin Builtin.len, args := { toList := [Operand.tmp 24] }, argTypes := { toList := [23] } }, guard := some (some 22, true) },
                { dst := some 26, op := Op.binOp BinOp.eql 3 (Operand.tmp 25) (Operand.const (Value.int IntKind.i64 (Int.ofNat 1))) 3, guard := some (some 22, true) },
                { dst := some 27, op := Op.pick (Operand.tmp 22) (Operand.tmp 26) (Operand.const (Value.bool false)), guard := none },
                { dst := some 28, op := Op.move (Operand.tmp 27), guard := none }, { dst := some 29, op := Op.move (Operand.tmp 1), guard := some (some 28, true) },
                { dst := some 30, op := Op.call { callee := Callee.value (Operand.func 20), args := { toList := [Operand.tmp 4, Operand.tmp 29] }, argTypes := { toList := [47, 27] } },
                  guard := some (some 28, true) },
                { dst := some 31, op := Op.pick (Operand.tmp 28) (Operand.tmp 30) (Operand.const (Value.bool false)), guard := none },
                { dst := some 32, op := Op.move (Operand.tmp 31), guard := none },
                { dst := some 33,
                  op :=
                    Op.call
                      { callee := Callee.value (Operand.func 22), args := { toList := [Operand.tmp 4, Operand.const (Value.int IntKind.i64 (Int.ofNat 6))] }, argTypes := { toList := [47, 22] } },
                  guard := some (some 32, true) },
                { dst := some 34, op := Op.pick (Operand.tmp 32) (Operand.tmp 33) (Operand.const (Value.bool false)), guard := none },
                { dst := some 35, op := Op.move (Operand.tmp 34), guard := none },
                { dst := some 36, op := Op.call { callee := Callee.value (Operand.func 21), args := { toList := [Operand.tmp 4] }, argTypes := { toList := [47] } }, guard := some (some 35, true) },
                { dst := some 37, op := Op.call { callee := Callee.builtin Builtin.len, args := { toList := [Operand.tmp 36] }, argTypes := { toList := [49] } }, guard := some (some 35, true) },
                { dst := some 38, op := Op.binOp BinOp.eql 3 (Operand.tmp 37) (Operand.const (Value.int IntKind.i64 (Int.ofNat 1))) 3, guard := some (some 35, true) },
                { dst := some 39, op := Op.pick (Operand.tmp 35) (Operand.tmp 38) (Operand.const (Value.bool false)), guard := none },
                { dst := some 40, op := Op.move (Operand.tmp 39), guard := none },
                { dst := some 41, op := Op.call { callee := Callee.value (Operand.func 28), args := { toList := [Operand.tmp 4] }, argTypes := { toList := [47] } }, guard := some (some 40, true) },
                { dst := some 42, op := Op.binOp BinOp.neq 27 (Operand.tmp 41) (Operand.const Value.nilIface) 27, guard := some (some 40, true) },
                { dst := some 43, op := Op.pick (Operand.tmp 40) (Operand.tmp 42) (Operand.const (Value.bool false)), guard := none },
                { dst := some 44, op := Op.move (Operand.tmp 43), guard := none }, { dst := some 45, op := Op.move (Operand.tmp 1), guard := some (some 44, true) },
                { dst := some 46, op := Op.call { callee := Callee.invoke (Operand.tmp 45) "Error", args := { toList := [] }, argTypes := { toList := [] } }, guard := some (some 44, true) },
                { dst := some 47,
                  op :=
                    Op.binOp BinOp.eql 9 (Operand.tmp 46)
                      (Operand.const
                        (Value.string
                          {
                            data :=
                              {
                                toList :=
                                  [100, 114, 105, 118,
                                    101, 58, 32, 102,
                                    97, 117, 108, 116,
                                    32, 54, 32, 97,
                                    116, 32, 53] } }))
                      9,
                  guard := some (some 44, true) },
                { dst := some 48, op := Op.pick (Operand.tmp 44) (Operand.tmp 47) (Operand.const (Value.bool false)), guard := none },
                { dst := some 0, op := Op.assign (Operand.tmp 48), guard := none }]).seq
          IC.ret))))
theorem ic9_eq : Tryd.f9.body.map comp = some ic9 := by kernel_rfl
theorem ic9_ok : Tryd.f9.body.map (okC Tryd.f9.ntmps) = some true := by kernel_rfl
theorem ic9_nm : (Tryd.f9.name != "runtime.NumGoroutine") = true := by kernel_rfl
@[simp] theorem ic9_n : Tryd.f9.ntmps = 49 := by kernel_rfl
@[simp] theorem ic9_r : Tryd.f9.results.toList = [ResultVar.tmp 0] := by kernel_rfl

def ic10 : IC :=
  (IC.ops [{ dst := some 2, op := Op.assign (Operand.const (Value.bool false)), guard := none }]).seq
  (((IC.ops
            [{ dst := some 4, op := Op.move (Operand.tmp 0), guard := none },
              { dst := some 5, op := Op.call { callee := Callee.builtin Builtin.len, args := { toList := [Operand.tmp 4] }, argTypes := { toList := [23] } }, guard := none },
              { dst := some 6, op := Op.move (Operand.const (Value.int IntKind.i64 (Int.ofNat 0))), guard := none }]).seq
        (IC.block 0
          ((IC.ops [{ dst := some 7, op := Op.binOp BinOp.lss 3 (Operand.tmp 6) (Operand.tmp 5) 3, guard := none }]).seq
              ((IC.cond (Operand.tmp 7) IC.skip (IC.exit 0)).seq
                ((IC.block 1
                      ((IC.ops [{ dst := some 8, op := Op.move (Operand.tmp 6), guard := none }, { dst := some 3, op := Op.assign (Operand.tmp 8), guard := none }]).seq
                        ((IC.ops
                              [{ dst := some 9, op := Op.move (Operand.tmp 0), guard := none }, { dst := some 10, op := Op.move (Operand.tmp 3), guard := none },
                                { dst := some 11, op := Op.indexAddr 23 (Operand.tmp 9) (Operand.tmp 10), guard := none }, { dst := some 12, op := Op.load 9 (Operand.tmp 11), guard := none },
                                { dst := some 13, op := Op.call { callee := Callee.builtin Builtin.len, args := { toList := [Operand.tmp 12] }, argTypes := { toList := [9] } }, guard := none },
                                { dst := some 14, op := Op.binOp BinOp.gtr 3 (Operand.tmp 13) (Operand.const (Value.int IntKind.i64 (Int.ofNat 30))) 3, guard := none }]).seq
                          (IC.cond (Operand.tmp 14) ((IC.ops [{ dst := some 2, op := Op.assign (Operand.const (Value.bool false)), guard := none }]).seq IC.ret) IC.skip)))).seq
                  (IC.ops
                    [{ dst := some 15, op := Op.binOp BinOp.add 3 (Operand.tmp 6) (Operand.const (Value.int IntKind.i64 (Int.ofNat 1))) 3, guard := none },
                      { dst := some 6, op := Op.move (Operand.tmp 15), guard := none }])))).loop)).seq
    ((IC.ops
          [{ dst := some 16, op := Op.move (Operand.tmp 0), guard := none },
            { dst := some 17, op := Op.call { callee := Callee.builtin Builtin.len, args := { toList := [Operand.tmp 16] }, argTypes := { toList := [23] } }, guard := none },
            { dst := some 18, op := Op.binOp BinOp.leq 3 (Operand.tmp 17) (Operand.const (Value.int IntKind.i64 (Int.ofNat 8))) 3, guard := none },
            { dst := some 2, op := Op.assign (Operand.tmp 18), guard := none }]).seq
      IC.ret))
theorem ic10_eq : Tryd.f10.body.map comp = some ic10 := by kernel_rfl
theorem ic10_ok : Tryd.f10.body.map (okC Tryd.f10.ntmps) = some true := by kernel_rfl
theorem ic10_nm : (Tryd.f10.name != "runtime.NumGoroutine") = true := by kernel_rfl
@[simp] theorem ic10_n : Tryd.f10.ntmps = 19 := by kernel_rfl
@[simp] theorem ic10_r : Tryd.f10.results.toList = [ResultVar.tmp 2] := by kernel_rfl

def ic11 : IC :=
  (IC.ops [{ dst := some 6, op := Op.assign (Operand.const Value.nilIface), guard := none }]).seq
  ((IC.ops
        [{ dst := some 9, op := Op.move (Operand.tmp 0), guard := none }, { dst := some 10, op := Op.move (Operand.tmp 1), guard := none },
          { dst := some 11, op := Op.call { callee := Callee.value (Operand.func 17), args := { toList := [Operand.tmp 9, Operand.tmp 10] }, argTypes := { toList := [22, 3] } }, guard := none },
          { dst := some 7, op := Op.assign (Operand.tmp 11), guard := none }]).seq
    (((IC.ops
              [{ dst := some 12, op := Op.move (Operand.tmp 2), guard := none },
                { dst := some 13, op := Op.call { callee := Callee.builtin Builtin.len, args := { toList := [Operand.tmp 12] }, argTypes := { toList := [23] } }, guard := none },
                { dst := some 14, op := Op.move (Operand.const (Value.int IntKind.i64 (Int.ofNat 0))), guard := none }]).seq
          (IC.block 0
            ((IC.ops [{ dst := some 15, op := Op.binOp BinOp.lss 3 (Operand.tmp 14) (Operand.tmp 13) 3, guard := none }]).seq
                ((IC.cond (Operand.tmp 15) IC.skip (IC.exit 0)).seq
                  ((IC.block 1
                        ((IC.ops [{ dst := some 16, op := Op.move (Operand.tmp 14), guard := none }, { dst := some 8, op := Op.assign (Operand.tmp 16), guard := none }]).seq
                          (IC.ops
                            [{ dst := some 17, op := Op.move (Operand.tmp 2), guard := none }, { dst := some 18, op := Op.move (Operand.tmp 8), guard := none },
                              { dst := some 19, op := Op.indexAddr 23 (Operand.tmp 17) (Operand.tmp 18), guard := none }, { dst := some 20, op := Op.load 9 (Operand.tmp 19), guard := none },
                              { dst := some 21, op := Op.move (Operand.tmp 7), guard := none },
                              { dst := some 22, op := Op.call { callee := Callee.value (Operand.func 18), args := { toList := [Operand.tmp 20, Operand.tmp 21] }, argTypes := { toList := [9, 27] } },
                                guard := none },
                              { dst := some 7, op := Op.assign (Operand.tmp 22), guard := none }]))).seq
                    (IC.ops
                      [{ dst := some 23, op := Op.binOp BinOp.add 3 (Operand.tmp 14) (Operand.const (Value.int IntKind.i64 (Int.ofNat 1))) 3, guard := none },
                        { dst := some 14, op := Op.move (Operand.tmp 23), guard := none }])))).loop)).seq
      ((IC.ops [{ dst := some 24, op := Op.move (Operand.tmp 7), guard := none }, { dst := some 6, op := Op.assign (Operand.tmp 24), guard := none }]).seq IC.ret)))
theorem ic11_eq : Tryd.f11.body.map comp = some ic11 := by kernel_rfl
theorem ic11_ok : Tryd.f11.body.map (okC Tryd.f11.ntmps) = some true := by kernel_rfl
theorem ic11_nm : (Tryd.f11.name != "runtime.NumGoroutine") = true := by kernel_rfl
@[simp] theorem ic11_n : Tryd.f11.ntmps = 25 := by kernel_rfl
@[simp] theorem ic11_r : Tryd.f11.results.toList = [ResultVar.tmp 6] := by kernel_rfl

def ic12 : IC :=
  (IC.ops [{ dst := some 6, op := Op.alloc 32, guard := none }]).seq
  (((IC.ops
            [{ dst := some 9, op := Op.move (Operand.tmp 0), guard := none },
              { dst := some 10, op := Op.call { callee := Callee.value (Operand.func 19), args := { toList := [Operand.tmp 9] }, argTypes := { toList := [22] } }, guard := none },
              { dst := some 11, op := Op.unOp UnOp.not 4 (Operand.tmp 10), guard := none }]).seq
        (IC.cond (Operand.tmp 11)
          ((IC.ops [{ dst := some 12, op := Op.build 32 { toList := [] }, guard := none }, { dst := none, op := Op.store 32 (Operand.tmp 6) (Operand.tmp 12), guard := none }]).seq IC.ret)
          IC.skip)).seq
    ((IC.ops
          [{ dst := some 13, op := Op.move (Operand.tmp 0), guard := none }, { dst := some 14, op := Op.move (Operand.tmp 1), guard := none },
            { dst := some 15,
              op :=
                Op.call
                  { callee := Callee.builtin Builtin.min, args := { toList := [Operand.tmp 14, Operand.const (Value.int IntKind.i64 (Int.ofNat 1099511627775))] }, argTypes := { toList := [3, 3] } },
              guard := none },
            { dst := some 16,
              op := Op.call { callee := Callee.builtin Builtin.max, args := { toList := [Operand.const (Value.int IntKind.i64 (Int.ofNat 0)), Operand.tmp 15] }, argTypes := { toList := [3, 3] } },
              guard := none },
            { dst := some 17, op := Op.build 30 { toList := [(0, Operand.tmp 13), (1, Operand.tmp 16)] }, guard := none },
            { dst := some 18, op := Op.build 32 { toList := [(0, Operand.const (Value.bool true)), (1, Operand.tmp 17)] }, guard := none }, { dst := some 7, op := Op.alloc 32, guard := none },
            { dst := none, op := Op.store 32 (Operand.tmp 7) (Operand.tmp 18), guard := none }]).seq
      (((IC.ops
                [{ dst := some 19, op := Op.move (Operand.tmp 2), guard := none },
                  { dst := some 20, op := Op.call { callee := Callee.builtin Builtin.len, args := { toList := [Operand.tmp 19] }, argTypes := { toList := [23] } }, guard := none },
                  { dst := some 21, op := Op.move (Operand.const (Value.int IntKind.i64 (Int.ofNat 0))), guard := none }]).seq
            (IC.block 0
              ((IC.ops [{ dst := some 22, op := Op.binOp BinOp.lss 3 (Operand.tmp 21) (Operand.tmp 20) 3, guard := none }]).seq
                  ((IC.cond (Operand.tmp 22) IC.skip (IC.exit 0)).seq
                    ((IC.block 1
                          ((IC.ops [{ dst := some 23, op := Op.move (Operand.tmp 21), guard := none }, { dst := some 8, op := Op.assign (Operand.tmp 23), guard := none }]).seq
                            (IC.opsD
                              [{ dst := some 24, op := Op.move (Operand.tmp 2), guard := none }, { dst := some 25, op := Op.move (Operand.tmp 8), guard := none },
                                { dst := some 26, op := Op.indexAddr 23 (Operand.tmp 24) (Operand.tmp 25), guard := none, bef := [0, 1] },
                                { dst := some 27, op := Op.load 9 (Operand.tmp 26), guard := none, bef := [2, 0, 1] },
                                { dst := some 28, op := Op.buildSlice 23 1 { toList := [(0, Operand.tmp 27)] }, guard := none, bef := [3, 2, 0, 1] },
                                { dst := some 29, op := Op.fieldAddr 32 (Operand.tmp 7) 2, guard := none }, { dst := some 30, op := Op.load 23 (Operand.tmp 29), guard := none, bef := [5] },
                                { dst := some 31, op := Op.call { callee := Callee.builtin Builtin.append, args := { toList := [Operand.tmp 28, Operand.tmp 30] }, argTypes := { toList := [23, 23] } },
                                  guard := none, bef := [4, 3, 2, 0, 1, 6, 5] },
                                { dst := some 32, op := Op.fieldAddr 32 (Operand.tmp 7) 2, guard := none, bef := [0, 1, 2, 3, 4, 5, 6, 7] },
                                { dst := none, op := Op.store 23 (Operand.tmp 32) (Operand.tmp 31), guard := none, bef := [8, 0, 1, 2, 3, 4, 5, 6, 7] }]))).seq
                      (IC.ops
                        [{ dst := some 33, op := Op.binOp BinOp.add 3 (Operand.tmp 21) (Operand.const (Value.int IntKind.i64 (Int.ofNat 1))) 3, guard := none },
                          { dst := some 21, op := Op.move (Operand.tmp 33), guard := none }])))).loop)).seq
        ((IC.ops [{ dst := some 34, op := Op.load 32 (Operand.tmp 7), guard := none }, { dst := none, op := Op.store 32 (Operand.tmp 6) (Operand.tmp 34), guard := none }]).seq IC.ret))))
theorem ic12_eq : Tryd.f12.body.map comp = some ic12 := by kernel_rfl
theorem ic12_ok : Tryd.f12.body.map (okC Tryd.f12.ntmps) = some true := by kernel_rfl
theorem ic12_nm : (Tryd.f12.name != "runtime.NumGoroutine") = true := by kernel_rfl
@[simp] theorem ic12_n : Tryd.f12.ntmps = 35 := by kernel_rfl
@[simp] theorem ic12_r : Tryd.f12.results.toList = [ResultVar.cell 6 32] := by kernel_rfl

def ic13 : IC :=
  (IC.ops [{ dst := some 2, op := Op.alloc 30, guard := none }, { dst := some 3, op := Op.assign (Operand.const (Value.bool false)), guard := none }]).seq
  ((IC.ops [{ dst := some 4, op := Op.alloc 65, guard := none }]).seq
    (((IC.ops
              [{ dst := some 5, op := Op.move (Operand.tmp 0), guard := none }, { dst := some 6, op := Op.makeInterface 67 (Operand.tmp 4), guard := none },
                { dst := some 7, op := Op.call { callee := Callee.value (Operand.func 29), args := { toList := [Operand.tmp 5, Operand.tmp 6] }, argTypes := { toList := [27, 20] } }, guard := none },
                { dst := some 8, op := Op.unOp UnOp.not 4 (Operand.tmp 7), guard := none }]).seq
          (IC.cond (Operand.tmp 8)
            ((IC.ops
                  [{ dst := some 9, op := Op.build 30 { toList := [] }, guard := none }, { dst := none, op := Op.store 30 (Operand.tmp 2) (Operand.tmp 9), guard := none },
                    { dst := some 3, op := Op.assign (Operand.const (Value.bool false)), guard := none }]).seq
              IC.ret)
            IC.skip)).seq
      ((IC.ops
            [{ dst := some 10, op := Op.fieldAddr 65 (Operand.tmp 4) 0, guard := none }, { dst := some 11, op := Op.load 30 (Operand.tmp 10), guard := none },
              { dst := none, op := Op.store 30 (Operand.tmp 2) (Operand.tmp 11), guard := none }, { dst := some 3, op := Op.assign (Operand.const (Value.bool true)), guard := none }]).seq
        IC.ret)))
theorem ic13_eq : Tryd.f13.body.map comp = some ic13 := by kernel_rfl
theorem ic13_ok : Tryd.f13.body.map (okC Tryd.f13.ntmps) = some true := by kernel_rfl
theorem ic13_nm : (Tryd.f13.name != "runtime.NumGoroutine") = true := by kernel_rfl
@[simp] theorem ic13_n : Tryd.f13.ntmps = 12 := by kernel_rfl
@[simp] theorem ic13_r : Tryd.f13.results.toList = [ResultVar.cell 2 30, ResultVar.tmp 3] := by kernel_rfl

def ic14 : IC :=
  (IC.ops [{ dst := some 4, op := Op.assign (Operand.const (Value.bool false)), guard := none }]).seq
  ((IC.ops
        [{ dst := some 5, op := Op.move (Operand.tmp 0), guard := none }, { dst := some 6, op := Op.move (Operand.tmp 1), guard := none },
          { dst := some 7, op := Op.build 30 { toList := [(0, Operand.tmp 6)] }, guard := none }, { dst := some 8, op := Op.build 65 { toList := [(0, Operand.tmp 7)] }, guard := none },
          { dst := some 9, op := Op.makeInterface 65 (Operand.tmp 8), guard := none },
          { dst := some 10, op := Op.call { callee := Callee.value (Operand.func 30), args := { toList := [Operand.tmp 5, Operand.tmp 9] }, argTypes := { toList := [27, 27] } }, guard := none },
          { dst := some 4, op := Op.assign (Operand.tmp 10), guard := none }]).seq
    IC.ret)
theorem ic14_eq : Tryd.f14.body.map comp = some ic14 := by kernel_rfl
theorem ic14_ok : Tryd.f14.body.map (okC Tryd.f14.ntmps) = some true := by kernel_rfl
theorem ic14_nm : (Tryd.f14.name != "runtime.NumGoroutine") = true := by kernel_rfl
@[simp] theorem ic14_n : Tryd.f14.ntmps = 11 := by kernel_rfl
@[simp] theorem ic14_r : Tryd.f14.results.toList = [ResultVar.tmp 4] := by kernel_rfl

def ic15 : IC :=
  (IC.ops [{ dst := some 2, op := Op.assign (Operand.const (Value.slice none 0 0)), guard := none }]).seq
  ((IC.ops [{ dst := some 3, op := Op.assign (Operand.const (Value.slice none 0 0)), guard := none }]).seq
    ((IC.ops [{ dst := some 4, op := Op.alloc 70, guard := none }]).seq
      ((IC.block 0
            (((IC.ops
                        [{ dst := some 5, op := Op.move (Operand.tmp 0), guard := none }, { dst := some 6, op := Op.makeInterface 71 (Operand.tmp 4), guard := none },
                          { dst := some 7, op := Op.call { callee := Callee.value (Operand.func 29), args := { toList := [Operand.tmp 5, Operand.tmp 6] }, argTypes := { toList := [27, 20] } },
                            guard := none }]).seq
                    (IC.cond (Operand.tmp 7) IC.skip (IC.exit 0))).seq
                (IC.block 1
                  ((IC.ops
                        [{ dst := some 8, op := Op.move (Operand.tmp 3), guard := none }, { dst := some 9, op := Op.fieldAddr 70 (Operand.tmp 4) 0, guard := none },
                          { dst := some 10, op := Op.load 9 (Operand.tmp 9), guard := none }, { dst := some 11, op := Op.buildSlice 23 1 { toList := [(0, Operand.tmp 10)] }, guard := none },
                          { dst := some 12, op := Op.call { callee := Callee.builtin Builtin.append, args := { toList := [Operand.tmp 8, Operand.tmp 11] }, argTypes := { toList := [23, 23] } },
                            guard := none },
                          { dst := some 3, op := Op.assign (Operand.tmp 12), guard := none }]).seq
                    (IC.ops
                      [{ dst := some 13, op := Op.fieldAddr 70 (Operand.tmp 4) 1, guard := none }, { dst := some 14, op := Op.load 27 (Operand.tmp 13), guard := none },
                        { dst := some 0, op := Op.assign (Operand.tmp 14), guard := none }])))).loop).seq
        ((IC.ops [{ dst := some 15, op := Op.move (Operand.tmp 3), guard := none }, { dst := some 2, op := Op.assign (Operand.tmp 15), guard := none }]).seq IC.ret))))
theorem ic15_eq : Tryd.f15.body.map comp = some ic15 := by kernel_rfl
theorem ic15_ok : Tryd.f15.body.map (okC Tryd.f15.ntmps) = some true := by kernel_rfl
theorem ic15_nm : (Tryd.f15.name != "runtime.NumGoroutine") = true := by kernel_rfl
@[simp] theorem ic15_n : Tryd.f15.ntmps = 16 := by kernel_rfl
@[simp] theorem ic15_r : Tryd.f15.results.toList = [ResultVar.tmp 2] := by kernel_rfl

def ic16 : IC :=
  (IC.ops [{ dst := some 1, op := Op.box 32 (Operand.tmp 0), guard := none }, { dst := some 2, op := Op.assign (Operand.const (Value.string { data := { toList := [] } })), guard := none }]).seq
  ((IC.ops [{ dst := some 3, op := Op.assign (Operand.const (Value.string { data := { toList := [] } })), guard := none }]).seq
    (((IC.ops
              [{ dst := some 5, op := Op.fieldAddr 32 (Operand.tmp 1) 2, guard := none }, { dst := some 6, op := Op.load 23 (Operand.tmp 5), guard := none },
                { dst := some 7, op := Op.call { callee := Callee.builtin Builtin.len, args := { toList := [Operand.tmp 6] }, argTypes := { toList := [23] } }, guard := none },
                { dst := some 8, op := Op.move (Operand.const (Value.int IntKind.i64 (Int.ofNat 0))), guard := none }]).seq
          (IC.block 0
            ((IC.ops [{ dst := some 9, op := Op.binOp BinOp.lss 3 (Operand.tmp 8) (Operand.tmp 7) 3, guard := none }]).seq
                ((IC.cond (Operand.tmp 9) IC.skip (IC.exit 0)).seq
                  ((IC.block 1
                        ((IC.ops [{ dst := some 10, op := Op.move (Operand.tmp 8), guard := none }, { dst := some 4, op := Op.assign (Operand.tmp 10), guard := none }]).seq
                          (IC.ops
                            [{ dst := some 11, op := Op.move (Operand.tmp 3), guard := none }, { dst := some 12, op := Op.fieldAddr 32 (Operand.tmp 1) 2, guard := none },
                              { dst := some 13, op := Op.load 23 (Operand.tmp 12), guard := none }, { dst := some 14, op := Op.move (Operand.tmp 4), guard := none },
                              { dst := some 15, op := Op.indexAddr 23 (Operand.tmp 13) (Operand.tmp 14), guard := none }, { dst := some 16, op := Op.load 9 (Operand.tmp 15), guard := none },
                              { dst := some 17, op := Op.binOp BinOp.add 9 (Operand.tmp 11) (Operand.tmp 16) 9, guard := none },
                              { dst := some 18,
                                op :=
                                  Op.binOp BinOp.add 9 (Operand.tmp 17)
                                    (Operand.const (Value.string { data := { toList := [58, 32] } })) 9,
                                guard := none },
                              { dst := some 3, op := Op.assign (Operand.tmp 18), guard := none }]))).seq
                    (IC.ops
                      [{ dst := some 19, op := Op.binOp BinOp.add 3 (Operand.tmp 8) (Operand.const (Value.int IntKind.i64 (Int.ofNat 1))) 3, guard := none },
                        { dst := some 8, op := Op.move (Operand.tmp 19), guard := none }])))).loop)).seq
      ((IC.ops
            [{ dst := some 20, op := Op.move (Operand.tmp 3), guard := none }, { dst := some 21, op := Op.fieldAddr 32 (Operand.tmp 1) 1, guard := none },
              { dst := some 22, op := Op.load 30 (Operand.tmp 21), guard := none },
              { dst := some 23, op := Op.call { callee := Callee.value (Operand.func 31), args := { toList := [Operand.tmp 22] }, argTypes := { toList := [30] } }, guard := none },
              { dst := some 24, op := Op.binOp BinOp.add 9 (Operand.tmp 20) (Operand.tmp 23) 9, guard := none }, { dst := some 2, op := Op.assign (Operand.tmp 24), guard := none }]).seq
        IC.ret)))
theorem ic16_eq : Tryd.f16.body.map comp = some ic16 := by kernel_rfl
theorem ic16_ok : Tryd.f16.body.map (okC Tryd.f16.ntmps) = some true := by kernel_rfl
theorem ic16_nm : (Tryd.f16.name != "runtime.NumGoroutine") = true := by kernel_rfl
@[simp] theorem ic16_n : Tryd.f16.ntmps = 25 := by kernel_rfl
@[simp] theorem ic16_r : Tryd.f16.results.toList = [ResultVar.tmp 2] := by kernel_rfl

def ic17 : IC :=
  (IC.ops [{ dst := some 4, op := Op.assign (Operand.const Value.nilIface), guard := none }]).seq
  (((IC.ops
            [{ dst := some 5, op := Op.move (Operand.tmp 0), guard := none },
              { dst := some 6, op := Op.call { callee := Callee.value (Operand.func 32), args := { toList := [Operand.tmp 5] }, argTypes := { toList := [22] } }, guard := none },
              { dst := some 7, op := Op.unOp UnOp.not 4 (Operand.tmp 6), guard := none }]).seq
        (IC.cond (Operand.tmp 7) ((IC.ops [{ dst := some 4, op := Op.assign (Operand.const Value.nilIface), guard := none }]).seq IC.ret) IC.skip)).seq
    ((IC.ops
          [{ dst := some 8, op := Op.move (Operand.tmp 0), guard := none }, { dst := some 9, op := Op.move (Operand.tmp 1), guard := none },
            { dst := some 10,
              op :=
                Op.call
                  { callee := Callee.builtin Builtin.min, args := { toList := [Operand.tmp 9, Operand.const (Value.int IntKind.i64 (Int.ofNat 1099511627775))] }, argTypes := { toList := [3, 3] } },
              guard := none },
            { dst := some 11,
              op := Op.call { callee := Callee.builtin Builtin.max, args := { toList := [Operand.const (Value.int IntKind.i64 (Int.ofNat 0)), Operand.tmp 10] }, argTypes := { toList := [3, 3] } },
              guard := none },
            { dst := some 12, op := Op.build 30 { toList := [(0, Operand.tmp 8), (1, Operand.tmp 11)] }, guard := none },
            { dst := some 13, op := Op.build 65 { toList := [(0, Operand.tmp 12)] }, guard := none }, { dst := some 14, op := Op.makeInterface 65 (Operand.tmp 13), guard := none },
            { dst := some 4, op := Op.assign (Operand.tmp 14), guard := none }]).seq
      IC.ret))
theorem ic17_eq : Tryd.f17.body.map comp = some ic17 := by kernel_rfl
theorem ic17_ok : Tryd.f17.body.map (okC Tryd.f17.ntmps) = some true := by kernel_rfl
theorem ic17_nm : (Tryd.f17.name != "runtime.NumGoroutine") = true := by kernel_rfl
@[simp] theorem ic17_n : Tryd.f17.ntmps = 15 := by kernel_rfl
@[simp] theorem ic17_r : Tryd.f17.results.toList = [ResultVar.tmp 4] := by kernel_rfl

def ic18 : IC :=
  (IC.ops [{ dst := some 4, op := Op.assign (Operand.const Value.nilIface), guard := none }]).seq
  (((IC.ops [{ dst := some 5, op := Op.move (Operand.tmp 1), guard := none }, { dst := some 6, op := Op.binOp BinOp.eql 27 (Operand.tmp 5) (Operand.const Value.nilIface) 27, guard := none }]).seq
        (IC.cond (Operand.tmp 6) ((IC.ops [{ dst := some 4, op := Op.assign (Operand.const Value.nilIface), guard := none }]).seq IC.ret) IC.skip)).seq
    ((IC.ops
          [{ dst := some 7, op := Op.move (Operand.tmp 0), guard := none }, { dst := some 8, op := Op.move (Operand.tmp 1), guard := none },
            { dst := some 9, op := Op.build 70 { toList := [(0, Operand.tmp 7), (1, Operand.tmp 8)] }, guard := none }, { dst := some 10, op := Op.makeInterface 70 (Operand.tmp 9), guard := none },
            { dst := some 4, op := Op.assign (Operand.tmp 10), guard := none }]).seq
      IC.ret))
theorem ic18_eq : Tryd.f18.body.map comp = some ic18 := by kernel_rfl
theorem ic18_ok : Tryd.f18.body.map (okC Tryd.f18.ntmps) = some true := by kernel_rfl
theorem ic18_nm : (Tryd.f18.name != "runtime.NumGoroutine") = true := by kernel_rfl
@[simp] theorem ic18_n : Tryd.f18.ntmps = 11 := by kernel_rfl
@[simp] theorem ic18_r : Tryd.f18.results.toList = [ResultVar.tmp 4] := by kernel_rfl

def ic19 : IC :=
  (IC.ops [{ dst := some 2, op := Op.assign (Operand.const (Value.bool false)), guard := none }]).seq
  ((IC.ops
        [{ dst := some 3, op := Op.move (Operand.tmp 0), guard := none },
          { dst := some 4, op := Op.binOp BinOp.geq 22 (Operand.tmp 3) (Operand.const (Value.int IntKind.i64 (Int.ofNat 1))) 22, guard := none },
          { dst := some 5, op := Op.move (Operand.tmp 4), guard := none }, { dst := some 6, op := Op.move (Operand.tmp 0), guard := some (some 5, true) },
          { dst := some 7, op := Op.binOp BinOp.leq 22 (Operand.tmp 6) (Operand.const (Value.int IntKind.i64 (Int.ofNat 11))) 22, guard := some (some 5, true) },
          { dst := some 8, op := Op.pick (Operand.tmp 5) (Operand.tmp 7) (Operand.const (Value.bool false)), guard := none }, { dst := some 2, op := Op.assign (Operand.tmp 8), guard := none }]).seq
    IC.ret)
theorem ic19_eq : Tryd.f19.body.map comp = some ic19 := by kernel_rfl
theorem ic19_ok : Tryd.f19.body.map (okC Tryd.f19.ntmps) = some true := by kernel_rfl
theorem ic19_nm : (Tryd.f19.name != "runtime.NumGoroutine") = true := by kernel_rfl
@[simp] theorem ic19_n : Tryd.f19.ntmps = 9 := by kernel_rfl
@[simp] theorem ic19_r : Tryd.f19.results.toList = [ResultVar.tmp 2] := by kernel_rfl

def ic20 : IC :=
  (IC.ops [{ dst := some 4, op := Op.assign (Operand.const (Value.bool false)), guard := none }]).seq
  ((IC.ops
        [{ dst := some 8, op := Op.move (Operand.tmp 1), guard := none },
          { dst := some 9, op := Op.call { callee := Callee.value (Operand.func 13), args := { toList := [Operand.tmp 8] }, argTypes := { toList := [27] } }, guard := none },
          { dst := some 7, op := Op.move (Operand.tmp 9), guard := none }, { dst := some 10, op := Op.extract (Operand.tmp 7) 0, guard := none },
          { dst := some 11, op := Op.extract (Operand.tmp 7) 1, guard := none }, { dst := some 5, op := Op.alloc 30, guard := none },
          { dst := none, op := Op.store 30 (Operand.tmp 5) (Operand.tmp 10), guard := none }, { dst := some 6, op := Op.assign (Operand.tmp 11), guard := none }]).seq
    (((IC.ops
              [{ dst := some 12, op := Op.move (Operand.tmp 6), guard := none }, { dst := some 13, op := Op.unOp UnOp.not 4 (Operand.tmp 12), guard := none },
                { dst := some 14, op := Op.move (Operand.tmp 13), guard := none }, { dst := some 15, op := Op.move (Operand.tmp 0), guard := some (some 14, false) },
                { dst := some 16, op := Op.fieldAddr 30 (Operand.tmp 5) 0, guard := some (some 14, false) }, { dst := some 17, op := Op.load 22 (Operand.tmp 16), guard := some (some 14, false) },
                { dst := some 18, op := Op.call { callee := Callee.value (Operand.func 22), args := { toList := [Operand.tmp 15, Operand.tmp 17] }, argTypes := { toList := [72, 22] } },
                  guard := some (some 14, false) },
                { dst := some 19, op := Op.pick (Operand.tmp 14) (Operand.const (Value.bool true)) (Operand.tmp 18), guard := none }]).seq
          (IC.cond (Operand.tmp 19) ((IC.ops [{ dst := some 4, op := Op.assign (Operand.const (Value.bool false)), guard := none }]).seq IC.ret) IC.skip)).seq
      ((IC.opsD
            [{ dst := some 20, op := Op.move (Operand.tmp 0), guard := none }, { dst := some 21, op := Op.fieldAddr 30 (Operand.tmp 5) 0, guard := none },
              { dst := some 22, op := Op.load 22 (Operand.tmp 21), guard := none, bef := [1] }, { dst := some 23, op := Op.load 30 (Operand.tmp 5), guard := none },
              { dst := some 24, op := Op.nilCheck (Operand.tmp 20), guard := none, bef := [0] }, { dst := some 25, op := Op.fieldAddr 47 (Operand.tmp 24) 0, guard := none, bef := [4, 0] },
              { dst := some 26, op := Op.indexAddr 45 (Operand.tmp 25) (Operand.tmp 22), guard := none, bef := [5, 4, 0, 2, 1, 3] },
              { dst := none, op := Op.store 30 (Operand.tmp 26) (Operand.tmp 23), guard := none, bef := [6, 5, 4, 0, 2, 1, 3] }]).seq
        ((IC.ops [{ dst := some 4, op := Op.assign (Operand.const (Value.bool true)), guard := none }]).seq IC.ret))))
theorem ic20_eq : Tryd.f20.body.map comp = some ic20 := by kernel_rfl
theorem ic20_ok : Tryd.f20.body.map (okC Tryd.f20.ntmps) = some true := by kernel_rfl
theorem ic20_nm : (Tryd.f20.name != "runtime.NumGoroutine") = true := by kernel_rfl
@[simp] theorem ic20_n : Tryd.f20.ntmps = 27 := by kernel_rfl
@[simp] theorem ic20_r : Tryd.f20.results.toList = [ResultVar.tmp 4] := by kernel_rfl

def ic21 : IC :=
  (IC.ops [{ dst := some 2, op := Op.assign (Operand.const (Value.slice none 0 0)), guard := none }]).seq
  ((IC.ops [{ dst := some 3, op := Op.assign (Operand.const (Value.slice none 0 0)), guard := none }]).seq
    (((IC.ops
              [{ dst := some 6, op := Op.move (Operand.tmp 0), guard := none }, { dst := some 7, op := Op.nilCheck (Operand.tmp 6), guard := none },
                { dst := some 8, op := Op.fieldAddr 47 (Operand.tmp 7) 0, guard := none }, { dst := some 9, op := Op.load 45 (Operand.tmp 8), guard := none },
                { dst := some 10, op := Op.move (Operand.const (Value.int IntKind.i64 (Int.ofNat 0))), guard := none }]).seq
          (IC.block 0
            ((IC.ops [{ dst := some 11, op := Op.binOp BinOp.lss 3 (Operand.tmp 10) (Operand.const (Value.int IntKind.i64 (Int.ofNat 12))) 3, guard := none }]).seq
                ((IC.cond (Operand.tmp 11) IC.skip (IC.exit 0)).seq
                  ((IC.block 1
                        ((IC.ops
                              [{ dst := some 12, op := Op.index 45 (Operand.tmp 9) (Operand.tmp 10), guard := none }, { dst := some 5, op := Op.alloc 30, guard := none },
                                { dst := none, op := Op.store 30 (Operand.tmp 5) (Operand.tmp 12), guard := none }]).seq
                          ((IC.ops
                                [{ dst := some 13, op := Op.fieldAddr 30 (Operand.tmp 5) 0, guard := none }, { dst := some 14, op := Op.load 22 (Operand.tmp 13), guard := none },
                                  { dst := some 15, op := Op.binOp BinOp.neq 22 (Operand.tmp 14) (Operand.const (Value.int IntKind.i64 (Int.ofNat 0))) 22, guard := none }]).seq
                            (IC.cond (Operand.tmp 15)
                              (IC.ops
                                [{ dst := some 16, op := Op.move (Operand.tmp 3), guard := none }, { dst := some 17, op := Op.load 30 (Operand.tmp 5), guard := none },
                                  { dst := some 18, op := Op.buildSlice 49 1 { toList := [(0, Operand.tmp 17)] }, guard := none },
                                  { dst := some 19,
                                    op := Op.call { callee := Callee.builtin Builtin.append, args := { toList := [Operand.tmp 16, Operand.tmp 18] }, argTypes := { toList := [49, 49] } },
                                    guard := none },
                                  { dst := some 3, op := Op.assign (Operand.tmp 19), guard := none }])
                              IC.skip)))).seq
                    (IC.ops
                      [{ dst := some 20, op := Op.binOp BinOp.add 3 (Operand.tmp 10) (Operand.const (Value.int IntKind.i64 (Int.ofNat 1))) 3, guard := none },
                        { dst := some 10, op := Op.move (Operand.tmp 20), guard := none }])))).loop)).seq
      ((IC.ops [{ dst := some 21, op := Op.move (Operand.tmp 3), guard := none }, { dst := some 2, op := Op.assign (Operand.tmp 21), guard := none }]).seq IC.ret)))
theorem ic21_eq : Tryd.f21.body.map comp = some ic21 := by kernel_rfl
theorem ic21_ok : Tryd.f21.body.map (okC Tryd.f21.ntmps) = some true := by kernel_rfl
theorem ic21_nm : (Tryd.f21.name != "runtime.NumGoroutine") = true := by kernel_rfl
@[simp] theorem ic21_n : Tryd.f21.ntmps = 22 := by kernel_rfl
@[simp] theorem ic21_r : Tryd.f21.results.toList = [ResultVar.tmp 2] := by kernel_rfl

def ic22 : IC :=
  (IC.ops [{ dst := some 4, op := Op.assign (Operand.const (Value.bool false)), guard := none }]).seq
  ((IC.ops
        [{ dst := some 5, op := Op.move (Operand.tmp 1), guard := none },
          { dst := some 6, op := Op.call { callee := Callee.value (Operand.func 32), args := { toList := [Operand.tmp 5] }, argTypes := { toList := [22] } }, guard := none },
          { dst := some 7, op := Op.move (Operand.tmp 6), guard := none }, { dst := some 8, op := Op.move (Operand.tmp 0), guard := some (some 7, true) },
          { dst := some 9, op := Op.move (Operand.tmp 1), guard := some (some 7, true) }, { dst := some 10, op := Op.nilCheck (Operand.tmp 8), guard := some (some 7, true) },
          { dst := some 11, op := Op.fieldAddr 47 (Operand.tmp 10) 0, guard := some (some 7, true) },
          { dst := some 12, op := Op.indexAddr 45 (Operand.tmp 11) (Operand.tmp 9), guard := some (some 7, true) },
          { dst := some 13, op := Op.fieldAddr 30 (Operand.tmp 12) 0, guard := some (some 7, true) }, { dst := some 14, op := Op.load 22 (Operand.tmp 13), guard := some (some 7, true) },
          { dst := some 15, op := Op.move (Operand.tmp 1), guard := some (some 7, true) },
          { dst := some 16, op := Op.binOp BinOp.eql 22 (Operand.tmp 14) (Operand.tmp 15) 22, guard := some (some 7, true) },
          { dst := some 17, op := Op.pick (Operand.tmp 7) (Operand.tmp 16) (Operand.const (Value.bool false)), guard := none }, { dst := some 4, op := Op.assign (Operand.tmp 17), guard := none }]).seq
    IC.ret)
theorem ic22_eq : Tryd.f22.body.map comp = some ic22 := by kernel_rfl
theorem ic22_ok : Tryd.f22.body.map (okC Tryd.f22.ntmps) = some true := by kernel_rfl
theorem ic22_nm : (Tryd.f22.name != "runtime.NumGoroutine") = true := by kernel_rfl
@[simp] theorem ic22_n : Tryd.f22.ntmps = 18 := by kernel_rfl
@[simp] theorem ic22_r : Tryd.f22.results.toList = [ResultVar.tmp 4] := by kernel_rfl

def ic23 : IC :=
  (IC.ops [{ dst := some 4, op := Op.assign (Operand.const (Value.bool false)), guard := none }]).seq
  (((IC.ops
            [{ dst := some 6, op := Op.move (Operand.tmp 0), guard := none },
              { dst := some 7, op := Op.call { callee := Callee.builtin Builtin.len, args := { toList := [Operand.tmp 6] }, argTypes := { toList := [49] } }, guard := none },
              { dst := some 8, op := Op.move (Operand.tmp 1), guard := none },
              { dst := some 9, op := Op.call { callee := Callee.builtin Builtin.len, args := { toList := [Operand.tmp 8] }, argTypes := { toList := [49] } }, guard := none },
              { dst := some 10, op := Op.binOp BinOp.neq 3 (Operand.tmp 7) (Operand.tmp 9) 3, guard := none }]).seq
        (IC.cond (Operand.tmp 10) ((IC.ops [{ dst := some 4, op := Op.assign (Operand.const (Value.bool false)), guard := none }]).seq IC.ret) IC.skip)).seq
    (((IC.ops
              [{ dst := some 11, op := Op.move (Operand.tmp 0), guard := none },
                { dst := some 12, op := Op.call { callee := Callee.builtin Builtin.len, args := { toList := [Operand.tmp 11] }, argTypes := { toList := [49] } }, guard := none },
                { dst := some 13, op := Op.move (Operand.const (Value.int IntKind.i64 (Int.ofNat 0))), guard := none }]).seq
          (IC.block 0
            ((IC.ops [{ dst := some 14, op := Op.binOp BinOp.lss 3 (Operand.tmp 13) (Operand.tmp 12) 3, guard := none }]).seq
                ((IC.cond (Operand.tmp 14) IC.skip (IC.exit 0)).seq
                  ((IC.block 1
                        ((IC.ops [{ dst := some 15, op := Op.move (Operand.tmp 13), guard := none }, { dst := some 5, op := Op.assign (Operand.tmp 15), guard := none }]).seq
                          ((IC.opsD
                                [{ dst := some 16, op := Op.move (Operand.tmp 0), guard := none }, { dst := some 17, op := Op.move (Operand.tmp 5), guard := none },
                                  { dst := some 18, op := Op.indexAddr 49 (Operand.tmp 16) (Operand.tmp 17), guard := none, bef := [0, 1] },
                                  { dst := some 19, op := Op.load 30 (Operand.tmp 18), guard := none, bef := [2, 0, 1] }, { dst := some 20, op := Op.move (Operand.tmp 1), guard := none },
                                  { dst := some 21, op := Op.move (Operand.tmp 5), guard := none },
                                  { dst := some 22, op := Op.indexAddr 49 (Operand.tmp 20) (Operand.tmp 21), guard := none, bef := [4, 5] },
                                  { dst := some 23, op := Op.load 30 (Operand.tmp 22), guard := none, bef := [6, 4, 5] },
                                  { dst := some 24, op := Op.binOp BinOp.neq 30 (Operand.tmp 19) (Operand.tmp 23) 30, guard := none, bef := [3, 2, 0, 1, 7, 6, 4, 5] }]).seq
                            (IC.cond (Operand.tmp 24) ((IC.ops [{ dst := some 4, op := Op.assign (Operand.const (Value.bool false)), guard := none }]).seq IC.ret) IC.skip)))).seq
                    (IC.ops
                      [{ dst := some 25, op := Op.binOp BinOp.add 3 (Operand.tmp 13) (Operand.const (Value.int IntKind.i64 (Int.ofNat 1))) 3, guard := none },
                        { dst := some 13, op := Op.move (Operand.tmp 25), guard := none }])))).loop)).seq
      ((IC.ops [{ dst := some 4, op := Op.assign (Operand.const (Value.bool true)), guard := none }]).seq IC.ret)))
theorem ic23_eq : Tryd.f23.body.map comp = some ic23 := by kernel_rfl
theorem ic23_ok : Tryd.f23.body.map (okC Tryd.f23.ntmps) = some true := by kernel_rfl
theorem ic23_nm : (Tryd.f23.name != "runtime.NumGoroutine") = true := by kernel_rfl
@[simp] theorem ic23_n : Tryd.f23.ntmps = 26 := by kernel_rfl
@[simp] theorem ic23_r : Tryd.f23.results.toList = [ResultVar.tmp 4] := by kernel_rfl

def ic24 : IC :=
  (IC.ops
      [{ dst := some 3, op := Op.box 30 (Operand.tmp 1), guard := none }, { dst := some 4, op := Op.assign (Operand.const (Value.slice none 0 0)), guard := none },
        { dst := some 5, op := Op.assign (Operand.const (Value.bool false)), guard := none }]).seq
  ((IC.ops [{ dst := some 6, op := Op.assign (Operand.const (Value.slice none 0 0)), guard := none }]).seq
    ((IC.ops [{ dst := some 7, op := Op.assign (Operand.const (Value.bool false)), guard := none }]).seq
      (((IC.ops
                [{ dst := some 9, op := Op.move (Operand.tmp 0), guard := none },
                  { dst := some 10, op := Op.call { callee := Callee.builtin Builtin.len, args := { toList := [Operand.tmp 9] }, argTypes := { toList := [49] } }, guard := none },
                  { dst := some 11, op := Op.move (Operand.const (Value.int IntKind.i64 (Int.ofNat 0))), guard := none }]).seq
            (IC.block 0
              ((IC.ops [{ dst := some 12, op := Op.binOp BinOp.lss 3 (Operand.tmp 11) (Operand.tmp 10) 3, guard := none }]).seq
                  ((IC.cond (Operand.tmp 12) IC.skip (IC.exit 0)).seq
                    ((IC.block 1
                          ((IC.ops [{ dst := some 13, op := Op.move (Operand.tmp 11), guard := none }, { dst := some 8, op := Op.assign (Operand.tmp 13), guard := none }]).seq
                            (((IC.opsD
                                      [{ dst := some 14, op := Op.move (Operand.tmp 0), guard := none }, { dst := some 15, op := Op.move (Operand.tmp 8), guard := none },
                                        { dst := some 16, op := Op.indexAddr 49 (Operand.tmp 14) (Operand.tmp 15), guard := none, bef := [0, 1] },
                                        { dst := some 17, op := Op.fieldAddr 30 (Operand.tmp 16) 0, guard := none, bef := [2, 0, 1] },
                                        { dst := some 18, op := Op.load 22 (Operand.tmp 17), guard := none, bef := [3, 2, 0, 1] },
                                        { dst := some 19, op := Op.fieldAddr 30 (Operand.tmp 3) 0, guard := none }, { dst := some 20, op := Op.load 22 (Operand.tmp 19), guard := none, bef := [5] },
                                        { dst := some 21, op := Op.binOp BinOp.eql 22 (Operand.tmp 18) (Operand.tmp 20) 22, guard := none, bef := [4, 3, 2, 0, 1, 6, 5] }]).seq
                                  (IC.cond (Operand.tmp 21)
                                    ((IC.ops
                                          [{ dst := some 22, op := Op.move (Operand.tmp 0), guard := none }, { dst := some 4, op := Op.assign (Operand.tmp 22), guard := none },
                                            { dst := some 5, op := Op.assign (Operand.const (Value.bool false)), guard := none }]).seq
                                      IC.ret)
                                    IC.skip)).seq
                              (((IC.opsD
                                        [{ dst := some 23, op := Op.move (Operand.tmp 7), guard := none }, { dst := some 24, op := Op.unOp UnOp.not 4 (Operand.tmp 23), guard := none, bef := [0] },
                                          { dst := some 25, op := Op.move (Operand.tmp 24), guard := none, bef := [1, 0] },
                                          { dst := some 26, op := Op.move (Operand.tmp 0), guard := some (some 25, true), bef := [2, 1, 0] },
                                          { dst := some 27, op := Op.move (Operand.tmp 8), guard := some (some 25, true), bef := [2, 1, 0] },
                                          { dst := some 28, op := Op.indexAddr 49 (Operand.tmp 26) (Operand.tmp 27), guard := some (some 25, true), bef := [3, 2, 1, 0, 4] },
                                          { dst := some 29, op := Op.fieldAddr 30 (Operand.tmp 28) 0, guard := some (some 25, true), bef := [5, 3, 2, 1, 0, 4] },
                                          { dst := some 30, op := Op.load 22 (Operand.tmp 29), guard := some (some 25, true), bef := [6, 5, 3, 2, 1, 0, 4] },
                                          { dst := some 31, op := Op.fieldAddr 30 (Operand.tmp 3) 0, guard := some (some 25, true), bef := [2, 1, 0] },
                                          { dst := some 32, op := Op.load 22 (Operand.tmp 31), guard := some (some 25, true), bef := [8, 2, 1, 0] },
                                          { dst := some 33, op := Op.binOp BinOp.gtr 22 (Operand.tmp 30) (Operand.tmp 32) 22, guard := some (some 25, true), bef := [7, 6, 5, 3, 2, 1, 0, 4, 9, 8] },
                                          { dst := some 34, op := Op.pick (Operand.tmp 25) (Operand.tmp 33) (Operand.const (Value.bool false)), guard := none,
                                            bef := [2, 1, 0, 10, 7, 6, 5, 3, 4, 9, 8] }]).seq
                                    (IC.cond (Operand.tmp 34)
                                      ((IC.ops
                                            [{ dst := some 35, op := Op.move (Operand.tmp 6), guard := none }, { dst := some 36, op := Op.load 30 (Operand.tmp 3), guard := none },
                                              { dst := some 37, op := Op.buildSlice 49 1 { toList := [(0, Operand.tmp 36)] }, guard := none },
                                              { dst := some 38,
                                                op := Op.call { callee := Callee.builtin Builtin.append, args := { toList := [Operand.tmp 35, Operand.tmp 37] }, argTypes := { toList := [49, 49] } },
                                                guard := none },
                                              { dst := some 6, op := Op.assign (Operand.tmp 38), guard := none }]).seq
                                        (IC.ops [{ dst := some 7, op := Op.assign (Operand.const (Value.bool true)), guard := none }]))
                                      IC.skip)).seq
                                (IC.ops
                                  [{ dst := some 39, op := Op.move (Operand.tmp 6), guard := none }, { dst := some 40, op := Op.move (Operand.tmp 0), guard := none },
                                    { dst := some 41, op := Op.move (Operand.tmp 8), guard := none }, { dst := some 42, op := Op.indexAddr 49 (Operand.tmp 40) (Operand.tmp 41), guard := none },
                                    { dst := some 43, op := Op.load 30 (Operand.tmp 42), guard := none },
                                    { dst := some 44, op := Op.buildSlice 49 1 { toList := [(0, Operand.tmp 43)] }, guard := none },
                                    { dst := some 45,
                                      op := Op.call { callee := Callee.builtin Builtin.append, args := { toList := [Operand.tmp 39, Operand.tmp 44] }, argTypes := { toList := [49, 49] } },
                                      guard := none },
                                    { dst := some 6, op := Op.assign (Operand.tmp 45), guard := none }]))))).seq
                      (IC.ops
                        [{ dst := some 46, op := Op.binOp BinOp.add 3 (Operand.tmp 11) (Operand.const (Value.int IntKind.i64 (Int.ofNat 1))) 3, guard := none },
                          { dst := some 11, op := Op.move (Operand.tmp 46), guard := none }])))).loop)).seq
        (((IC.ops [{ dst := some 47, op := Op.move (Operand.tmp 7), guard := none }, { dst := some 48, op := Op.unOp UnOp.not 4 (Operand.tmp 47), guard := none }]).seq
              (IC.cond (Operand.tmp 48)
                (IC.ops
                  [{ dst := some 49, op := Op.move (Operand.tmp 6), guard := none }, { dst := some 50, op := Op.load 30 (Operand.tmp 3), guard := none },
                    { dst := some 51, op := Op.buildSlice 49 1 { toList := [(0, Operand.tmp 50)] }, guard := none },
                    { dst := some 52, op := Op.call { callee := Callee.builtin Builtin.append, args := { toList := [Operand.tmp 49, Operand.tmp 51] }, argTypes := { toList := [49, 49] } },
                      guard := none },
                    { dst := some 6, op := Op.assign (Operand.tmp 52), guard := none }])
                IC.skip)).seq
          ((IC.ops
                [{ dst := some 53, op := Op.move (Operand.tmp 6), guard := none }, { dst := some 4, op := Op.assign (Operand.tmp 53), guard := none },
                  { dst := some 5, op := Op.assign (Operand.const (Value.bool true)), guard := none }]).seq
            IC.ret)))))
theorem ic24_eq : Tryd.f24.body.map comp = some ic24 := by kernel_rfl
theorem ic24_ok : Tryd.f24.body.map (okC Tryd.f24.ntmps) = some true := by kernel_rfl
theorem ic24_nm : (Tryd.f24.name != "runtime.NumGoroutine") = true := by kernel_rfl
@[simp] theorem ic24_n : Tryd.f24.ntmps = 54 := by kernel_rfl
@[simp] theorem ic24_r : Tryd.f24.results.toList = [ResultVar.tmp 4, ResultVar.tmp 5] := by kernel_rfl

def ic25 : IC :=
  (IC.ops [{ dst := some 4, op := Op.assign (Operand.const (Value.bool false)), guard := none }]).seq
  (((IC.ops
            [{ dst := some 6, op := Op.move (Operand.tmp 0), guard := none },
              { dst := some 7, op := Op.call { callee := Callee.builtin Builtin.len, args := { toList := [Operand.tmp 6] }, argTypes := { toList := [49] } }, guard := none },
              { dst := some 8, op := Op.move (Operand.const (Value.int IntKind.i64 (Int.ofNat 0))), guard := none }]).seq
        (IC.block 0
          ((IC.ops [{ dst := some 9, op := Op.binOp BinOp.lss 3 (Operand.tmp 8) (Operand.tmp 7) 3, guard := none }]).seq
              ((IC.cond (Operand.tmp 9) IC.skip (IC.exit 0)).seq
                ((IC.block 1
                      ((IC.ops [{ dst := some 10, op := Op.move (Operand.tmp 8), guard := none }, { dst := some 5, op := Op.assign (Operand.tmp 10), guard := none }]).seq
                        ((IC.ops
                              [{ dst := some 11, op := Op.move (Operand.tmp 0), guard := none }, { dst := some 12, op := Op.move (Operand.tmp 5), guard := none },
                                { dst := some 13, op := Op.indexAddr 49 (Operand.tmp 11) (Operand.tmp 12), guard := none }, { dst := some 14, op := Op.fieldAddr 30 (Operand.tmp 13) 0, guard := none },
                                { dst := some 15, op := Op.load 22 (Operand.tmp 14), guard := none }, { dst := some 16, op := Op.move (Operand.tmp 1), guard := none },
                                { dst := some 17, op := Op.binOp BinOp.eql 22 (Operand.tmp 15) (Operand.tmp 16) 22, guard := none }]).seq
                          (IC.cond (Operand.tmp 17) ((IC.ops [{ dst := some 4, op := Op.assign (Operand.const (Value.bool true)), guard := none }]).seq IC.ret) IC.skip)))).seq
                  (IC.ops
                    [{ dst := some 18, op := Op.binOp BinOp.add 3 (Operand.tmp 8) (Operand.const (Value.int IntKind.i64 (Int.ofNat 1))) 3, guard := none },
                      { dst := some 8, op := Op.move (Operand.tmp 18), guard := none }])))).loop)).seq
    ((IC.ops [{ dst := some 4, op := Op.assign (Operand.const (Value.bool false)), guard := none }]).seq IC.ret))
theorem ic25_eq : Tryd.f25.body.map comp = some ic25 := by kernel_rfl
theorem ic25_ok : Tryd.f25.body.map (okC Tryd.f25.ntmps) = some true := by kernel_rfl
theorem ic25_nm : (Tryd.f25.name != "runtime.NumGoroutine") = true := by kernel_rfl
@[simp] theorem ic25_n : Tryd.f25.ntmps = 19 := by kernel_rfl
@[simp] theorem ic25_r : Tryd.f25.results.toList = [ResultVar.tmp 4] := by kernel_rfl

def ic26 : IC :=
  (IC.ops [{ dst := some 4, op := Op.assign (Operand.const (Value.slice none 0 0)), guard := none }, { dst := some 5, op := Op.assign (Operand.const (Value.bool false)), guard := none }]).seq
  ((IC.ops [{ dst := some 6, op := Op.assign (Operand.const (Value.slice none 0 0)), guard := none }]).seq
    (((IC.ops
              [{ dst := some 8, op := Op.move (Operand.tmp 0), guard := none },
                { dst := some 9, op := Op.call { callee := Callee.builtin Builtin.len, args := { toList := [Operand.tmp 8] }, argTypes := { toList := [49] } }, guard := none },
                { dst := some 10, op := Op.move (Operand.const (Value.int IntKind.i64 (Int.ofNat 0))), guard := none }]).seq
          (IC.block 0
            ((IC.ops [{ dst := some 11, op := Op.binOp BinOp.lss 3 (Operand.tmp 10) (Operand.tmp 9) 3, guard := none }]).seq
                ((IC.cond (Operand.tmp 11) IC.skip (IC.exit 0)).seq
                  ((IC.block 1
                        ((IC.ops [{ dst := some 12, op := Op.move (Operand.tmp 10), guard := none }, { dst := some 7, op := Op.assign (Operand.tmp 12), guard := none }]).seq
                          ((IC.ops
                                [{ dst := some 13, op := Op.move (Operand.tmp 0), guard := none }, { dst := some 14, op := Op.move (Operand.tmp 7), guard := none },
                                  { dst := some 15, op := Op.indexAddr 49 (Operand.tmp 13) (Operand.tmp 14), guard := none },
                                  { dst := some 16, op := Op.fieldAddr 30 (Operand.tmp 15) 0, guard := none }, { dst := some 17, op := Op.load 22 (Operand.tmp 16), guard := none },
                                  { dst := some 18, op := Op.move (Operand.tmp 1), guard := none },
                                  { dst := some 19, op := Op.binOp BinOp.neq 22 (Operand.tmp 17) (Operand.tmp 18) 22, guard := none }]).seq
                            (IC.cond (Operand.tmp 19)
                              (IC.ops
                                [{ dst := some 20, op := Op.move (Operand.tmp 6), guard := none }, { dst := some 21, op := Op.move (Operand.tmp 0), guard := none },
                                  { dst := some 22, op := Op.move (Operand.tmp 7), guard := none }, { dst := some 23, op := Op.indexAddr 49 (Operand.tmp 21) (Operand.tmp 22), guard := none },
                                  { dst := some 24, op := Op.load 30 (Operand.tmp 23), guard := none }, { dst := some 25, op := Op.buildSlice 49 1 { toList := [(0, Operand.tmp 24)] }, guard := none },
                                  { dst := some 26,
                                    op := Op.call { callee := Callee.builtin Builtin.append, args := { toList := [Operand.tmp 20, Operand.tmp 25] }, argTypes := { toList := [49, 49] } },
                                    guard := none },
                                  { dst := some 6, op := Op.assign (Operand.tmp 26), guard := none }])
                              IC.skip)))).seq
                    (IC.ops
                      [{ dst := some 27, op := Op.binOp BinOp.add 3 (Operand.tmp 10) (Operand.const (Value.int IntKind.i64 (Int.ofNat 1))) 3, guard := none },
                        { dst := some 10, op := Op.move (Operand.tmp 27), guard := none }])))).loop)).seq
      ((IC.ops
            [{ dst := some 28, op := Op.move (Operand.tmp 6), guard := none }, { dst := some 29, op := Op.move (Operand.tmp 6), guard := none },
              { dst := some 30, op := Op.call { callee := Callee.builtin Builtin.len, args := { toList := [Operand.tmp 29] }, argTypes := { toList := [49] } }, guard := none },
              { dst := some 31, op := Op.move (Operand.tmp 0), guard := none },
              { dst := some 32, op := Op.call { callee := Callee.builtin Builtin.len, args := { toList := [Operand.tmp 31] }, argTypes := { toList := [49] } }, guard := none },
              { dst := some 33, op := Op.binOp BinOp.lss 3 (Operand.tmp 30) (Operand.tmp 32) 3, guard := none }, { dst := some 4, op := Op.assign (Operand.tmp 28), guard := none },
              { dst := some 5, op := Op.assign (Operand.tmp 33), guard := none }]).seq
        IC.ret)))
theorem ic26_eq : Tryd.f26.body.map comp = some ic26 := by kernel_rfl
theorem ic26_ok : Tryd.f26.body.map (okC Tryd.f26.ntmps) = some true := by kernel_rfl
theorem ic26_nm : (Tryd.f26.name != "runtime.NumGoroutine") = true := by kernel_rfl
@[simp] theorem ic26_n : Tryd.f26.ntmps = 34 := by kernel_rfl
@[simp] theorem ic26_r : Tryd.f26.results.toList = [ResultVar.tmp 4, ResultVar.tmp 5] := by kernel_rfl

def ic27 : IC :=
  (IC.ops [{ dst := some 4, op := Op.assign (Operand.const (Value.bool false)), guard := none }]).seq
  (((IC.ops
            [{ dst := some 5, op := Op.move (Operand.tmp 0), guard := none }, { dst := some 6, op := Op.move (Operand.tmp 1), guard := none },
              { dst := some 7, op := Op.call { callee := Callee.value (Operand.func 22), args := { toList := [Operand.tmp 5, Operand.tmp 6] }, argTypes := { toList := [72, 22] } }, guard := none },
              { dst := some 8, op := Op.unOp UnOp.not 4 (Operand.tmp 7), guard := none }]).seq
        (IC.cond (Operand.tmp 8) ((IC.ops [{ dst := some 4, op := Op.assign (Operand.const (Value.bool false)), guard := none }]).seq IC.ret) IC.skip)).seq
    ((IC.ops
          [{ dst := some 9, op := Op.move (Operand.tmp 0), guard := none }, { dst := some 10, op := Op.move (Operand.tmp 1), guard := none },
            { dst := some 11, op := Op.build 30 { toList := [] }, guard := none }, { dst := some 12, op := Op.nilCheck (Operand.tmp 9), guard := none },
            { dst := some 13, op := Op.fieldAddr 47 (Operand.tmp 12) 0, guard := none }, { dst := some 14, op := Op.indexAddr 45 (Operand.tmp 13) (Operand.tmp 10), guard := none },
            { dst := none, op := Op.store 30 (Operand.tmp 14) (Operand.tmp 11), guard := none }]).seq
      ((IC.ops [{ dst := some 4, op := Op.assign (Operand.const (Value.bool true)), guard := none }]).seq IC.ret)))
theorem ic27_eq : Tryd.f27.body.map comp = some ic27 := by kernel_rfl
theorem ic27_ok : Tryd.f27.body.map (okC Tryd.f27.ntmps) = some true := by kernel_rfl
theorem ic27_nm : (Tryd.f27.name != "runtime.NumGoroutine") = true := by kernel_rfl
@[simp] theorem ic27_n : Tryd.f27.ntmps = 15 := by kernel_rfl
@[simp] theorem ic27_r : Tryd.f27.results.toList = [ResultVar.tmp 4] := by kernel_rfl

def ic28 : IC :=
  (IC.ops [{ dst := some 2, op := Op.assign (Operand.const Value.nilIface), guard := none }]).seq
  (((IC.ops
            [{ dst := some 5, op := Op.move (Operand.tmp 0), guard := none }, { dst := some 6, op := Op.nilCheck (Operand.tmp 5), guard := none },
              { dst := some 7, op := Op.fieldAddr 47 (Operand.tmp 6) 0, guard := none }, { dst := some 8, op := Op.load 45 (Operand.tmp 7), guard := none },
              { dst := some 9, op := Op.move (Operand.const (Value.int IntKind.i64 (Int.ofNat 0))), guard := none }]).seq
        (IC.block 0
          ((IC.ops [{ dst := some 10, op := Op.binOp BinOp.lss 3 (Operand.tmp 9) (Operand.const (Value.int IntKind.i64 (Int.ofNat 12))) 3, guard := none }]).seq
              ((IC.cond (Operand.tmp 10) IC.skip (IC.exit 0)).seq
                ((IC.block 1
                      ((IC.ops
                            [{ dst := some 11, op := Op.index 45 (Operand.tmp 8) (Operand.tmp 9), guard := none }, { dst := some 4, op := Op.alloc 30, guard := none },
                              { dst := none, op := Op.store 30 (Operand.tmp 4) (Operand.tmp 11), guard := none }]).seq
                        ((IC.ops
                              [{ dst := some 12, op := Op.fieldAddr 30 (Operand.tmp 4) 0, guard := none }, { dst := some 13, op := Op.load 22 (Operand.tmp 12), guard := none },
                                { dst := some 14, op := Op.binOp BinOp.neq 22 (Operand.tmp 13) (Operand.const (Value.int IntKind.i64 (Int.ofNat 0))) 22, guard := none }]).seq
                          (IC.cond (Operand.tmp 14)
                            ((IC.ops
                                  [{ dst := some 15, op := Op.fieldAddr 30 (Operand.tmp 4) 0, guard := none }, { dst := some 16, op := Op.load 22 (Operand.tmp 15), guard := none },
                                    { dst := some 17, op := Op.fieldAddr 30 (Operand.tmp 4) 1, guard := none }, { dst := some 18, op := Op.load 3 (Operand.tmp 17), guard := none },
                                    { dst := some 19,
                                      op := Op.call { callee := Callee.value (Operand.func 17), args := { toList := [Operand.tmp 16, Operand.tmp 18] }, argTypes := { toList := [22, 3] } },
                                      guard := none },
                                    { dst := some 2, op := Op.assign (Operand.tmp 19), guard := none }]).seq
                              IC.ret)
                            IC.skip)))).seq
                  (IC.ops
                    [{ dst := some 20, op := Op.binOp BinOp.add 3 (Operand.tmp 9) (Operand.const (Value.int IntKind.i64 (Int.ofNat 1))) 3, guard := none },
                      { dst := some 9, op := Op.move (Operand.tmp 20), guard := none }])))).loop)).seq
    ((IC.ops [{ dst := some 2, op := Op.assign (Operand.const Value.nilIface), guard := none }]).seq IC.ret))
theorem ic28_eq : Tryd.f28.body.map comp = some ic28 := by kernel_rfl
theorem ic28_ok : Tryd.f28.body.map (okC Tryd.f28.ntmps) = some true := by kernel_rfl
theorem ic28_nm : (Tryd.f28.name != "runtime.NumGoroutine") = true := by kernel_rfl
@[simp] theorem ic28_n : Tryd.f28.ntmps = 21 := by kernel_rfl
@[simp] theorem ic28_r : Tryd.f28.results.toList = [ResultVar.tmp 2] := by kernel_rfl

def ic29 : IC :=
  (IC.ops [{ dst := some 4, op := Op.assign (Operand.const (Value.bool false)), guard := none }]).seq
  (((IC.ops [{ dst := some 8, op := Op.move (Operand.tmp 0), guard := none }, { dst := some 9, op := Op.binOp BinOp.eql 27 (Operand.tmp 8) (Operand.const Value.nilIface) 27, guard := none }]).seq
        (IC.cond (Operand.tmp 9) ((IC.ops [{ dst := some 4, op := Op.assign (Operand.const (Value.bool false)), guard := none }]).seq IC.ret) IC.skip)).seq
    (((IC.ops [{ dst := some 10, op := Op.move (Operand.tmp 1), guard := none }, { dst := some 11, op := Op.binOp BinOp.eql 20 (Operand.tmp 10) (Operand.const Value.nilIface) 20, guard := none }]).seq
          (IC.cond (Operand.tmp 11)
            (IC.ops
              [{ dst := some 12,
                  op :=
                    Op.makeInterface 9
                      (Operand.const
                        (Value.string
                          {
                            data :=
                              {
                                toList :=
                                  [101, 114, 114, 111,
                                    114, 115, 58, 32,
                                    116, 97, 114, 103,
                                    101, 116, 32, 99,
                                    97, 110, 110, 111,
                                    116, 32, 98, 101,
                                    32, 110, 105, 108] } })),
                  guard := none },
                { dst := none, op := Op.panic (Operand.tmp 12), guard := none }])
            IC.skip)).seq
      ((IC.ops
            [{ dst := some 13, op := Op.move (Operand.tmp 1), guard := none },
              { dst := some 14, op := Op.call { callee := Callee.value (Operand.func 33), args := { toList := [Operand.tmp 13] }, argTypes := { toList := [20] } }, guard := none },
              { dst := some 5, op := Op.alloc 76, guard := none }, { dst := none, op := Op.store 76 (Operand.tmp 5) (Operand.tmp 14), guard := none }]).seq
        ((IC.ops
              [{ dst := some 15, op := Op.load 76 (Operand.tmp 5), guard := none },
                { dst := some 16, op := Op.call { callee := Callee.value (Operand.func 34), args := { toList := [Operand.tmp 15] }, argTypes := { toList := [76] } }, guard := none },
                { dst := some 6, op := Op.assign (Operand.tmp 16), guard := none }]).seq
          (((IC.ops
                    [{ dst := some 17, op := Op.move (Operand.tmp 6), guard := none },
                      { dst := some 18, op := Op.call { callee := Callee.invoke (Operand.tmp 17) "Kind", args := { toList := [] }, argTypes := { toList := [] } }, guard := none },
                      { dst := some 19, op := Op.binOp BinOp.neq 81 (Operand.tmp 18) (Operand.const (Value.int IntKind.u8 (Int.ofNat 22))) 81, guard := none },
                      { dst := some 20, op := Op.move (Operand.tmp 19), guard := none }, { dst := some 21, op := Op.load 76 (Operand.tmp 5), guard := some (some 20, false) },
                      { dst := some 22, op := Op.call { callee := Callee.value (Operand.func 35), args := { toList := [Operand.tmp 21] }, argTypes := { toList := [76] } },
                        guard := some (some 20, false) },
                      { dst := some 23, op := Op.pick (Operand.tmp 20) (Operand.const (Value.bool true)) (Operand.tmp 22), guard := none }]).seq
                (IC.cond (Operand.tmp 23)
                  (IC.ops
                    [{ dst := some 24,
                        op :=
                          Op.makeInterface 9
                            (Operand.const
                              (Value.string lit0)),
                        guard := none },
                      { dst := none, op := Op.panic (Operand.tmp 24), guard := none }])
                  IC.skip)).seq
            ((IC.ops
                  [{ dst := some 25, op := Op.move (Operand.tmp 6), guard := none },
                    { dst := some 26, op := Op.call { callee := Callee.invoke (Operand.tmp 25) "Elem", args := { toList := [] }, argTypes := { toList := [] } }, guard := none },
                    { dst := some 7, op := Op.assign (Operand.tmp 26), guard := none }]).seq
              (((IC.ops
                        [{ dst := some 27, op := Op.move (Operand.tmp 7), guard := none },
                          { dst := some 28, op := Op.call { callee := Callee.invoke (Operand.tmp 27) "Kind", args := { toList := [] }, argTypes := { toList := [] } }, guard := none },
                          { dst := some 29, op := Op.binOp BinOp.neq 81 (Operand.tmp 28) (Operand.const (Value.int IntKind.u8 (Int.ofNat 20))) 81, guard := none },
                          { dst := some 30, op := Op.move (Operand.tmp 29), guard := none }, { dst := some 31, op := Op.move (Operand.tmp 7), guard := some (some 30, true) },
                          { dst := some 32, op := Op.load 79 (Operand.global 0), guard := some (some 30, true) },
                          { dst := some 33, op := Op.call { callee := Callee.invoke (Operand.tmp 31) "Implements", args := { toList := [Operand.tmp 32] }, argTypes := { toList := [79] } },
                            guard := some (some 30, true) },
                          { dst := some 34, op := Op.unOp UnOp.not 4 (Operand.tmp 33), guard := some (some 30, true) },
                          { dst := some 35, op := Op.pick (Operand.tmp 30) (Operand.tmp 34) (Operand.const (Value.bool false)), guard := none }]).seq
                    (IC.cond (Operand.tmp 35)
                      (IC.ops
                        [{ dst := some 36,
                            op :=
                              Op.makeInterface 9
                                (Operand.const
                                  (Value.string lit1)),
                            guard := none },
                          { dst := none, op := Op.panic (Operand.tmp 36), guard := none }])
                      IC.skip)).seq
                ((IC.ops
                      [{ dst := some 37, op := Op.move (Operand.tmp 0), guard := none }, { dst := some 38, op := Op.move (Operand.tmp 1), guard := none },
                        { dst := some 39, op := Op.load 76 (Operand.tmp 5), guard := none }, { dst := some 40, op := Op.move (Operand.tmp 7), guard := none },
                        { dst := some 41,
                          op :=
                            Op.call
                              { callee := Callee.value (Operand.func 36), args := { toList := [Operand.tmp 37, Operand.tmp 38, Operand.tmp 39, Operand.tmp 40] },
                                argTypes := { toList := [27, 20, 76, 79] } },
                          guard := none },
                        { dst := some 4, op := Op.assign (Operand.tmp 41), guard := none }]).seq
                  IC.ret))))))))
theorem ic29_eq : Tryd.f29.body.map comp = some ic29 := by kernel_rfl
theorem ic29_ok : Tryd.f29.body.map (okC Tryd.f29.ntmps) = some true := by kernel_rfl
theorem ic29_nm : (Tryd.f29.name != "runtime.NumGoroutine") = true := by kernel_rfl
@[simp] theorem ic29_n : Tryd.f29.ntmps = 42 := by kernel_rfl
@[simp] theorem ic29_r : Tryd.f29.results.toList = [ResultVar.tmp 4] := by kernel_rfl

def ic30 : IC :=
  (IC.ops [{ dst := some 4, op := Op.assign (Operand.const (Value.bool false)), guard := none }]).seq
  (((IC.ops
            [{ dst := some 6, op := Op.move (Operand.tmp 0), guard := none }, { dst := some 7, op := Op.binOp BinOp.eql 27 (Operand.tmp 6) (Operand.const Value.nilIface) 27, guard := none },
              { dst := some 8, op := Op.move (Operand.tmp 7), guard := none }, { dst := some 9, op := Op.move (Operand.tmp 1), guard := some (some 8, false) },
              { dst := some 10, op := Op.binOp BinOp.eql 27 (Operand.tmp 9) (Operand.const Value.nilIface) 27, guard := some (some 8, false) },
              { dst := some 11, op := Op.pick (Operand.tmp 8) (Operand.const (Value.bool true)) (Operand.tmp 10), guard := none }]).seq
        (IC.cond (Operand.tmp 11)
          ((IC.ops
                [{ dst := some 12, op := Op.move (Operand.tmp 0), guard := none }, { dst := some 13, op := Op.move (Operand.tmp 1), guard := none },
                  { dst := some 14, op := Op.binOp BinOp.eql 27 (Operand.tmp 12) (Operand.tmp 13) 27, guard := none }, { dst := some 4, op := Op.assign (Operand.tmp 14), guard := none }]).seq
            IC.ret)
          IC.skip)).seq
    ((IC.ops
          [{ dst := some 15, op := Op.move (Operand.tmp 1), guard := none },
            { dst := some 16, op := Op.call { callee := Callee.value (Operand.func 37), args := { toList := [Operand.tmp 15] }, argTypes := { toList := [20] } }, guard := none },
            { dst := some 17, op := Op.call { callee := Callee.invoke (Operand.tmp 16) "Comparable", args := { toList := [] }, argTypes := { toList := [] } }, guard := none },
            { dst := some 5, op := Op.assign (Operand.tmp 17), guard := none }]).seq
      ((IC.ops
            [{ dst := some 18, op := Op.move (Operand.tmp 0), guard := none }, { dst := some 19, op := Op.move (Operand.tmp 1), guard := none },
              { dst := some 20, op := Op.move (Operand.tmp 5), guard := none },
              { dst := some 21,
                op := Op.call { callee := Callee.value (Operand.func 38), args := { toList := [Operand.tmp 18, Operand.tmp 19, Operand.tmp 20] }, argTypes := { toList := [27, 27, 4] } },
                guard := none },
              { dst := some 4, op := Op.assign (Operand.tmp 21), guard := none }]).seq
        IC.ret)))
theorem ic30_eq : Tryd.f30.body.map comp = some ic30 := by kernel_rfl
theorem ic30_ok : Tryd.f30.body.map (okC Tryd.f30.ntmps) = some true := by kernel_rfl
theorem ic30_nm : (Tryd.f30.name != "runtime.NumGoroutine") = true := by kernel_rfl
@[simp] theorem ic30_n : Tryd.f30.ntmps = 22 := by kernel_rfl
@[simp] theorem ic30_r : Tryd.f30.results.toList = [ResultVar.tmp 4] := by kernel_rfl

def ic31 : IC :=
  (IC.ops [{ dst := some 1, op := Op.box 30 (Operand.tmp 0), guard := none }, { dst := some 2, op := Op.assign (Operand.const (Value.string { data := { toList := [] } })), guard := none }]).seq
  ((IC.opsD
        [{ dst := some 3, op := Op.fieldAddr 30 (Operand.tmp 1) 0, guard := none }, { dst := some 4, op := Op.load 22 (Operand.tmp 3), guard := none, bef := [0] },
          { dst := some 5, op := Op.call { callee := Callee.value (Operand.func 39), args := { toList := [Operand.tmp 4] }, argTypes := { toList := [3] } }, guard := none, bef := [1, 0] },
          { dst := some 6,
            op :=
              Op.binOp BinOp.add 9
                (Operand.const
                  (Value.string
                    {
                      data :=
                        {
                          toList :=
                            [102, 97, 117, 108,
                              116, 32] } }))
                (Operand.tmp 5) 9,
            guard := none, bef := [2, 1, 0] },
          { dst := some 7,
            op :=
              Op.binOp BinOp.add 9 (Operand.tmp 6)
                (Operand.const
                  (Value.string
                    {
                      data :=
                        { toList := [32, 97, 116, 32] } }))
                9,
            guard := none, bef := [3, 2, 1, 0] },
          { dst := some 8, op := Op.fieldAddr 30 (Operand.tmp 1) 1, guard := none }, { dst := some 9, op := Op.load 3 (Operand.tmp 8), guard := none, bef := [5] },
          { dst := some 10, op := Op.call { callee := Callee.value (Operand.func 39), args := { toList := [Operand.tmp 9] }, argTypes := { toList := [3] } }, guard := none, bef := [6, 5, 2, 1, 0] },
          { dst := some 11, op := Op.binOp BinOp.add 9 (Operand.tmp 7) (Operand.tmp 10) 9, guard := none, bef := [4, 3, 2, 1, 0, 7, 6, 5] },
          { dst := some 2, op := Op.assign (Operand.tmp 11), guard := none, bef := [8, 4, 3, 2, 1, 0, 7, 6, 5] }]).seq
    IC.ret)
theorem ic31_eq : Tryd.f31.body.map comp = some ic31 := by kernel_rfl
theorem ic31_ok : Tryd.f31.body.map (okC Tryd.f31.ntmps) = some true := by kernel_rfl
theorem ic31_nm : (Tryd.f31.name != "runtime.NumGoroutine") = true := by kernel_rfl
@[simp] theorem ic31_n : Tryd.f31.ntmps = 12 := by kernel_rfl
@[simp] theorem ic31_r : Tryd.f31.results.toList = [ResultVar.tmp 2] := by kernel_rfl

def ic32 : IC :=
  (IC.ops [{ dst := some 2, op := Op.assign (Operand.const (Value.bool false)), guard := none }]).seq
  ((IC.ops
        [{ dst := some 3, op := Op.move (Operand.tmp 0), guard := none },
          { dst := some 4, op := Op.binOp BinOp.geq 22 (Operand.tmp 3) (Operand.const (Value.int IntKind.i64 (Int.ofNat 1))) 22, guard := none },
          { dst := some 5, op := Op.move (Operand.tmp 4), guard := none }, { dst := some 6, op := Op.move (Operand.tmp 0), guard := some (some 5, true) },
          { dst := some 7, op := Op.binOp BinOp.leq 22 (Operand.tmp 6) (Operand.const (Value.int IntKind.i64 (Int.ofNat 11))) 22, guard := some (some 5, true) },
          { dst := some 8, op := Op.pick (Operand.tmp 5) (Operand.tmp 7) (Operand.const (Value.bool false)), guard := none }, { dst := some 2, op := Op.assign (Operand.tmp 8), guard := none }]).seq
    IC.ret)
theorem ic32_eq : Tryd.f32.body.map comp = some ic32 := by kernel_rfl
theorem ic32_ok : Tryd.f32.body.map (okC Tryd.f32.ntmps) = some true := by kernel_rfl
theorem ic32_nm : (Tryd.f32.name != "runtime.NumGoroutine") = true := by kernel_rfl
@[simp] theorem ic32_n : Tryd.f32.ntmps = 9 := by kernel_rfl
@[simp] theorem ic32_r : Tryd.f32.results.toList = [ResultVar.tmp 2] := by kernel_rfl

def ic36 : IC :=
  (IC.ops [{ dst := some 6, op := Op.box 76 (Operand.tmp 2), guard := none }, { dst := some 8, op := Op.assign (Operand.const (Value.bool false)), guard := none }]).seq
  (IC.block 0
    (IC.block 1
        (((IC.ops
                  [{ dst := some 16, op := Op.move (Operand.tmp 0), guard := none },
                    { dst := some 17, op := Op.call { callee := Callee.value (Operand.func 37), args := { toList := [Operand.tmp 16] }, argTypes := { toList := [20] } }, guard := none },
                    { dst := some 18, op := Op.move (Operand.tmp 3), guard := none },
                    { dst := some 19, op := Op.call { callee := Callee.invoke (Operand.tmp 17) "AssignableTo", args := { toList := [Operand.tmp 18] }, argTypes := { toList := [79] } },
                      guard := none }]).seq
              (IC.cond (Operand.tmp 19)
                ((IC.ops
                      [{ dst := some 20, op := Op.load 76 (Operand.tmp 6), guard := none },
                        { dst := some 21, op := Op.call { callee := Callee.value (Operand.func 40), args := { toList := [Operand.tmp 20] }, argTypes := { toList := [76] } }, guard := none },
                        { dst := some 22, op := Op.move (Operand.tmp 0), guard := none },
                        { dst := some 23, op := Op.call { callee := Callee.value (Operand.func 33), args := { toList := [Operand.tmp 22] }, argTypes := { toList := [20] } }, guard := none },
                        { dst := some 24, op := Op.call { callee := Callee.value (Operand.func 41), args := { toList := [Operand.tmp 21, Operand.tmp 23] }, argTypes := { toList := [76, 76] } },
                          guard := none }]).seq
                  ((IC.ops [{ dst := some 8, op := Op.assign (Operand.const (Value.bool true)), guard := none }]).seq IC.ret))
                IC.skip)).seq
          (((IC.ops
                    [{ dst := some 26, op := Op.move (Operand.tmp 0), guard := none }, { dst := some 27, op := Op.typeAssert (Operand.tmp 26) 27 93 true, guard := none },
                      { dst := some 25, op := Op.move (Operand.tmp 27), guard := none }, { dst := some 28, op := Op.extract (Operand.tmp 25) 0, guard := none },
                      { dst := some 29, op := Op.extract (Operand.tmp 25) 1, guard := none }, { dst := some 9, op := Op.assign (Operand.tmp 28), guard := none },
                      { dst := some 10, op := Op.assign (Operand.tmp 29), guard := none }]).seq
                ((IC.ops
                      [{ dst := some 30, op := Op.move (Operand.tmp 10), guard := none }, { dst := some 31, op := Op.move (Operand.tmp 30), guard := none },
                        { dst := some 32, op := Op.move (Operand.tmp 9), guard := some (some 31, true) }, { dst := some 33, op := Op.move (Operand.tmp 1), guard := some (some 31, true) },
                        { dst := some 34, op := Op.call { callee := Callee.invoke (Operand.tmp 32) "As", args := { toList := [Operand.tmp 33] }, argTypes := { toList := [20] } },
                          guard := some (some 31, true) },
                        { dst := some 35, op := Op.pick (Operand.tmp 31) (Operand.tmp 34) (Operand.const (Value.bool false)), guard := none }]).seq
                  (IC.cond (Operand.tmp 35) ((IC.ops [{ dst := some 8, op := Op.assign (Operand.const (Value.bool true)), guard := none }]).seq IC.ret) IC.skip))).seq
            ((IC.ops [{ dst := some 36, op := Op.move (Operand.tmp 0), guard := none }]).seq
              (IC.block 2
                ((IC.ops
                      [{ dst := some 37, op := Op.typeAssert (Operand.tmp 36) 27 96 true, guard := none }, { dst := some 38, op := Op.extract (Operand.tmp 37) 1, guard := none },
                        { dst := some 39, op := Op.extract (Operand.tmp 37) 0, guard := none }]).seq
                  (IC.cond (Operand.tmp 38)
                    ((IC.ops [{ dst := some 11, op := Op.assign (Operand.tmp 39), guard := none }]).seq
                      ((IC.ops
                            [{ dst := some 40, op := Op.move (Operand.tmp 11), guard := none },
                              { dst := some 41, op := Op.call { callee := Callee.invoke (Operand.tmp 40) "Unwrap", args := { toList := [] }, argTypes := { toList := [] } }, guard := none },
                              { dst := some 0, op := Op.assign (Operand.tmp 41), guard := none }]).seq
                        ((IC.ops
                              [{ dst := some 42, op := Op.move (Operand.tmp 0), guard := none },
                                { dst := some 43, op := Op.binOp BinOp.eql 27 (Operand.tmp 42) (Operand.const Value.nilIface) 27, guard := none }]).seq
                          (IC.cond (Operand.tmp 43) ((IC.ops [{ dst := some 8, op := Op.assign (Operand.const (Value.bool false)), guard := none }]).seq IC.ret) IC.skip))))
                    ((IC.ops
                          [{ dst := some 44, op := Op.typeAssert (Operand.tmp 36) 27 97 true, guard := none }, { dst := some 45, op := Op.extract (Operand.tmp 44) 1, guard := none },
                            { dst := some 46, op := Op.extract (Operand.tmp 44) 0, guard := none }]).seq
                      (IC.cond (Operand.tmp 45)
                        ((IC.ops [{ dst := some 12, op := Op.assign (Operand.tmp 46), guard := none }]).seq
                          (((IC.ops
                                    [{ dst := some 47, op := Op.move (Operand.tmp 12), guard := none },
                                      { dst := some 48, op := Op.call { callee := Callee.invoke (Operand.tmp 47) "Unwrap", args := { toList := [] }, argTypes := { toList := [] } }, guard := none },
                                      { dst := some 49, op := Op.call { callee := Callee.builtin Builtin.len, args := { toList := [Operand.tmp 48] }, argTypes := { toList := [98] } }, guard := none },
                                      { dst := some 50, op := Op.move (Operand.const (Value.int IntKind.i64 (Int.ofNat 0))), guard := none }]).seq
                                (IC.block 3
                                  ((IC.ops [{ dst := some 51, op := Op.binOp BinOp.lss 3 (Operand.tmp 50) (Operand.tmp 49) 3, guard := none }]).seq
                                      ((IC.cond (Operand.tmp 51) IC.skip (IC.exit 3)).seq
                                        ((IC.block 4
                                              ((IC.ops
                                                    [{ dst := some 52, op := Op.indexAddr 98 (Operand.tmp 48) (Operand.tmp 50), guard := none },
                                                      { dst := some 53, op := Op.load 27 (Operand.tmp 52), guard := none }, { dst := some 14, op := Op.assign (Operand.tmp 53), guard := none }]).seq
                                                (((IC.ops
                                                          [{ dst := some 54, op := Op.move (Operand.tmp 14), guard := none },
                                                            { dst := some 55, op := Op.binOp BinOp.eql 27 (Operand.tmp 54) (Operand.const Value.nilIface) 27, guard := none }]).seq
                                                      (IC.cond (Operand.tmp 55) (IC.exit 4) IC.skip)).seq
                                                  ((IC.ops
                                                        [{ dst := some 56, op := Op.move (Operand.tmp 14), guard := none }, { dst := some 57, op := Op.move (Operand.tmp 1), guard := none },
                                                          { dst := some 58, op := Op.load 76 (Operand.tmp 6), guard := none }, { dst := some 59, op := Op.move (Operand.tmp 3), guard := none },
                                                          { dst := some 60,
                                                            op :=
                                                              Op.call
                                                                { callee := Callee.value (Operand.func 36), args := { toList := [Operand.tmp 56, Operand.tmp 57, Operand.tmp 58, Operand.tmp 59] },
                                                                  argTypes := { toList := [27, 20, 76, 79] } },
                                                            guard := none }]).seq
                                                    (IC.cond (Operand.tmp 60) ((IC.ops [{ dst := some 8, op := Op.assign (Operand.const (Value.bool true)), guard := none }]).seq IC.ret)
                                                      IC.skip))))).seq
                                          (IC.ops
                                            [{ dst := some 61, op := Op.binOp BinOp.add 3 (Operand.tmp 50) (Operand.const (Value.int IntKind.i64 (Int.ofNat 1))) 3, guard := none },
                                              { dst := some 50, op := Op.move (Operand.tmp 61), guard := none }])))).loop)).seq
                            ((IC.ops [{ dst := some 8, op := Op.assign (Operand.const (Value.bool false)), guard := none }]).seq IC.ret)))
                        ((IC.ops [{ dst := some 15, op := Op.assign (Operand.tmp 36), guard := none }]).seq
                          ((IC.ops [{ dst := some 8, op := Op.assign (Operand.const (Value.bool false)), guard := none }]).seq IC.ret))))))))))).loop)
theorem ic36_eq : Tryd.f36.body.map comp = some ic36 := by kernel_rfl
theorem ic36_ok : Tryd.f36.body.map (okC Tryd.f36.ntmps) = some true := by kernel_rfl
theorem ic36_nm : (Tryd.f36.name != "runtime.NumGoroutine") = true := by kernel_rfl
@[simp] theorem ic36_n : Tryd.f36.ntmps = 62 := by kernel_rfl
@[simp] theorem ic36_r : Tryd.f36.results.toList = [ResultVar.tmp 8] := by kernel_rfl

def ic38 : IC :=
  (IC.ops [{ dst := some 6, op := Op.assign (Operand.const (Value.bool false)), guard := none }]).seq
  (IC.block 0
    (IC.block 1
        (((IC.ops
                  [{ dst := some 14, op := Op.move (Operand.tmp 2), guard := none }, { dst := some 15, op := Op.move (Operand.tmp 14), guard := none },
                    { dst := some 16, op := Op.move (Operand.tmp 0), guard := some (some 15, true) }, { dst := some 17, op := Op.move (Operand.tmp 1), guard := some (some 15, true) },
                    { dst := some 18, op := Op.binOp BinOp.eql 27 (Operand.tmp 16) (Operand.tmp 17) 27, guard := some (some 15, true) },
                    { dst := some 19, op := Op.pick (Operand.tmp 15) (Operand.tmp 18) (Operand.const (Value.bool false)), guard := none }]).seq
              (IC.cond (Operand.tmp 19) ((IC.ops [{ dst := some 6, op := Op.assign (Operand.const (Value.bool true)), guard := none }]).seq IC.ret) IC.skip)).seq
          (((IC.ops
                    [{ dst := some 21, op := Op.move (Operand.tmp 0), guard := none }, { dst := some 22, op := Op.typeAssert (Operand.tmp 21) 27 100 true, guard := none },
                      { dst := some 20, op := Op.move (Operand.tmp 22), guard := none }, { dst := some 23, op := Op.extract (Operand.tmp 20) 0, guard := none },
                      { dst := some 24, op := Op.extract (Operand.tmp 20) 1, guard := none }, { dst := some 7, op := Op.assign (Operand.tmp 23), guard := none },
                      { dst := some 8, op := Op.assign (Operand.tmp 24), guard := none }]).seq
                ((IC.ops
                      [{ dst := some 25, op := Op.move (Operand.tmp 8), guard := none }, { dst := some 26, op := Op.move (Operand.tmp 25), guard := none },
                        { dst := some 27, op := Op.move (Operand.tmp 7), guard := some (some 26, true) }, { dst := some 28, op := Op.move (Operand.tmp 1), guard := some (some 26, true) },
                        { dst := some 29, op := Op.call { callee := Callee.invoke (Operand.tmp 27) "Is", args := { toList := [Operand.tmp 28] }, argTypes := { toList := [27] } },
                          guard := some (some 26, true) },
                        { dst := some 30, op := Op.pick (Operand.tmp 26) (Operand.tmp 29) (Operand.const (Value.bool false)), guard := none }]).seq
                  (IC.cond (Operand.tmp 30) ((IC.ops [{ dst := some 6, op := Op.assign (Operand.const (Value.bool true)), guard := none }]).seq IC.ret) IC.skip))).seq
            ((IC.ops [{ dst := some 31, op := Op.move (Operand.tmp 0), guard := none }]).seq
              (IC.block 2
                ((IC.ops
                      [{ dst := some 32, op := Op.typeAssert (Operand.tmp 31) 27 96 true, guard := none }, { dst := some 33, op := Op.extract (Operand.tmp 32) 1, guard := none },
                        { dst := some 34, op := Op.extract (Operand.tmp 32) 0, guard := none }]).seq
                  (IC.cond (Operand.tmp 33)
                    ((IC.ops [{ dst := some 9, op := Op.assign (Operand.tmp 34), guard := none }]).seq
                      ((IC.ops
                            [{ dst := some 35, op := Op.move (Operand.tmp 9), guard := none },
                              { dst := some 36, op := Op.call { callee := Callee.invoke (Operand.tmp 35) "Unwrap", args := { toList := [] }, argTypes := { toList := [] } }, guard := none },
                              { dst := some 0, op := Op.assign (Operand.tmp 36), guard := none }]).seq
                        ((IC.ops
                              [{ dst := some 37, op := Op.move (Operand.tmp 0), guard := none },
                                { dst := some 38, op := Op.binOp BinOp.eql 27 (Operand.tmp 37) (Operand.const Value.nilIface) 27, guard := none }]).seq
                          (IC.cond (Operand.tmp 38) ((IC.ops [{ dst := some 6, op := Op.assign (Operand.const (Value.bool false)), guard := none }]).seq IC.ret) IC.skip))))
                    ((IC.ops
                          [{ dst := some 39, op := Op.typeAssert (Operand.tmp 31) 27 97 true, guard := none }, { dst := some 40, op := Op.extract (Operand.tmp 39) 1, guard := none },
                            { dst := some 41, op := Op.extract (Operand.tmp 39) 0, guard := none }]).seq
                      (IC.cond (Operand.tmp 40)
                        ((IC.ops [{ dst := some 10, op := Op.assign (Operand.tmp 41), guard := none }]).seq
                          (((IC.ops
                                    [{ dst := some 42, op := Op.move (Operand.tmp 10), guard := none },
                                      { dst := some 43, op := Op.call { callee := Callee.invoke (Operand.tmp 42) "Unwrap", args := { toList := [] }, argTypes := { toList := [] } }, guard := none },
                                      { dst := some 44, op := Op.call { callee := Callee.builtin Builtin.len, args := { toList := [Operand.tmp 43] }, argTypes := { toList := [98] } }, guard := none },
                                      { dst := some 45, op := Op.move (Operand.const (Value.int IntKind.i64 (Int.ofNat 0))), guard := none }]).seq
                                (IC.block 3
                                  ((IC.ops [{ dst := some 46, op := Op.binOp BinOp.lss 3 (Operand.tmp 45) (Operand.tmp 44) 3, guard := none }]).seq
                                      ((IC.cond (Operand.tmp 46) IC.skip (IC.exit 3)).seq
                                        ((IC.block 4
                                              ((IC.ops
                                                    [{ dst := some 47, op := Op.indexAddr 98 (Operand.tmp 43) (Operand.tmp 45), guard := none },
                                                      { dst := some 48, op := Op.load 27 (Operand.tmp 47), guard := none }, { dst := some 12, op := Op.assign (Operand.tmp 48), guard := none }]).seq
                                                ((IC.ops
                                                      [{ dst := some 49, op := Op.move (Operand.tmp 12), guard := none }, { dst := some 50, op := Op.move (Operand.tmp 1), guard := none },
                                                        { dst := some 51, op := Op.move (Operand.tmp 2), guard := none },
                                                        { dst := some 52,
                                                          op :=
                                                            Op.call
                                                              { callee := Callee.value (Operand.func 38), args := { toList := [Operand.tmp 49, Operand.tmp 50, Operand.tmp 51] },
                                                                argTypes := { toList := [27, 27, 4] } },
                                                          guard := none }]).seq
                                                  (IC.cond (Operand.tmp 52) ((IC.ops [{ dst := some 6, op := Op.assign (Operand.const (Value.bool true)), guard := none }]).seq IC.ret) IC.skip)))).seq
                                          (IC.ops
                                            [{ dst := some 53, op := Op.binOp BinOp.add 3 (Operand.tmp 45) (Operand.const (Value.int IntKind.i64 (Int.ofNat 1))) 3, guard := none },
                                              { dst := some 45, op := Op.move (Operand.tmp 53), guard := none }])))).loop)).seq
                            ((IC.ops [{ dst := some 6, op := Op.assign (Operand.const (Value.bool false)), guard := none }]).seq IC.ret)))
                        ((IC.ops [{ dst := some 13, op := Op.assign (Operand.tmp 31), guard := none }]).seq
                          ((IC.ops [{ dst := some 6, op := Op.assign (Operand.const (Value.bool false)), guard := none }]).seq IC.ret))))))))))).loop)
theorem ic38_eq : Tryd.f38.body.map comp = some ic38 := by kernel_rfl
theorem ic38_ok : Tryd.f38.body.map (okC Tryd.f38.ntmps) = some true := by kernel_rfl
theorem ic38_nm : (Tryd.f38.name != "runtime.NumGoroutine") = true := by kernel_rfl
@[simp] theorem ic38_n : Tryd.f38.ntmps = 54 := by kernel_rfl
@[simp] theorem ic38_r : Tryd.f38.results.toList = [ResultVar.tmp 6] := by kernel_rfl

def ic39 : IC :=
  (IC.ops [{ dst := some 2, op := Op.assign (Operand.const (Value.string { data := { toList := [] } })), guard := none }]).seq
  ((IC.ops
        [{ dst := some 3, op := Op.move (Operand.tmp 0), guard := none },
          { dst := some 4, op := Op.call { callee := Callee.value (Operand.func 42), args := { toList := [Operand.tmp 3] }, argTypes := { toList := [3] } }, guard := none },
          { dst := some 2, op := Op.assign (Operand.tmp 4), guard := none }]).seq
    IC.ret)
theorem ic39_eq : Tryd.f39.body.map comp = some ic39 := by kernel_rfl
theorem ic39_ok : Tryd.f39.body.map (okC Tryd.f39.ntmps) = some true := by kernel_rfl
theorem ic39_nm : (Tryd.f39.name != "runtime.NumGoroutine") = true := by kernel_rfl
@[simp] theorem ic39_n : Tryd.f39.ntmps = 5 := by kernel_rfl
@[simp] theorem ic39_r : Tryd.f39.results.toList = [ResultVar.tmp 2] := by kernel_rfl

def ic42 : IC :=
  (IC.ops [{ dst := some 2, op := Op.assign (Operand.const (Value.string { data := { toList := [] } })), guard := none }]).seq
  ((IC.ops
        [{ dst := some 3, op := Op.move (Operand.tmp 0), guard := none },
          { dst := some 4,
            op := Op.call { callee := Callee.value (Operand.func 43), args := { toList := [Operand.tmp 3, Operand.const (Value.int IntKind.i64 (Int.ofNat 10))] }, argTypes := { toList := [2, 3] } },
            guard := none },
          { dst := some 2, op := Op.assign (Operand.tmp 4), guard := none }]).seq
    IC.ret)
theorem ic42_eq : Tryd.f42.body.map comp = some ic42 := by kernel_rfl
theorem ic42_ok : Tryd.f42.body.map (okC Tryd.f42.ntmps) = some true := by kernel_rfl
theorem ic42_nm : (Tryd.f42.name != "runtime.NumGoroutine") = true := by kernel_rfl
@[simp] theorem ic42_n : Tryd.f42.ntmps = 5 := by kernel_rfl
@[simp] theorem ic42_r : Tryd.f42.results.toList = [ResultVar.tmp 2] := by kernel_rfl

def ic43 : IC :=
  (IC.ops [{ dst := some 4, op := Op.assign (Operand.const (Value.string { data := { toList := [] } })), guard := none }]).seq
  (((IC.ops
            [{ dst := some 10, op := Op.move (Operand.tmp 1), guard := none },
              { dst := some 11, op := Op.binOp BinOp.eql 3 (Operand.tmp 10) (Operand.const (Value.int IntKind.i64 (Int.ofNat 10))) 3, guard := none }]).seq
        (IC.cond (Operand.tmp 11)
          (((IC.ops
                    [{ dst := some 12, op := Op.move (Operand.tmp 0), guard := none },
                      { dst := some 13, op := Op.binOp BinOp.leq 2 (Operand.const (Value.int IntKind.i64 (Int.ofNat 0))) (Operand.tmp 12) 2, guard := none },
                      { dst := some 14, op := Op.move (Operand.tmp 13), guard := none }, { dst := some 15, op := Op.move (Operand.tmp 0), guard := some (some 14, true) },
                      { dst := some 16, op := Op.binOp BinOp.lss 2 (Operand.tmp 15) (Operand.const (Value.int IntKind.i64 (Int.ofNat 100))) 2, guard := some (some 14, true) },
                      { dst := some 17, op := Op.pick (Operand.tmp 14) (Operand.tmp 16) (Operand.const (Value.bool false)), guard := none }]).seq
                (IC.cond (Operand.tmp 17)
                  ((IC.ops
                        [{ dst := some 18, op := Op.move (Operand.tmp 0), guard := none },
                          { dst := some 19, op := Op.call { callee := Callee.value (Operand.func 44), args := { toList := [Operand.tmp 18] }, argTypes := { toList := [3] } }, guard := none },
                          { dst := some 4, op := Op.assign (Operand.tmp 19), guard := none }]).seq
                    IC.ret)
                  IC.skip)).seq
            ((IC.ops [{ dst := some 5, op := Op.alloc 103, guard := none }]).seq
              ((IC.ops
                    [{ dst := some 20, op := Op.move (Operand.tmp 0), guard := none }, { dst := some 21, op := Op.convert 2 104 (Operand.tmp 20), guard := none },
                      { dst := some 6, op := Op.assign (Operand.tmp 21), guard := none }]).seq
                (((IC.ops
                          [{ dst := some 22, op := Op.move (Operand.tmp 0), guard := none },
                            { dst := some 23, op := Op.binOp BinOp.lss 2 (Operand.tmp 22) (Operand.const (Value.int IntKind.i64 (Int.ofNat 0))) 2, guard := none }]).seq
                      (IC.cond (Operand.tmp 23)
                        (IC.ops
                          [{ dst := some 24, op := Op.move (Operand.tmp 6), guard := none }, { dst := some 25, op := Op.unOp UnOp.neg 104 (Operand.tmp 24), guard := none },
                            { dst := some 6, op := Op.assign (Operand.tmp 25), guard := none }])
                        IC.skip)).seq
                  ((IC.ops
                        [{ dst := some 26, op := Op.move (Operand.tmp 6), guard := none },
                          { dst := some 27, op := Op.call { callee := Callee.value (Operand.func 45), args := { toList := [Operand.tmp 26] }, argTypes := { toList := [104] } }, guard := none },
                          { dst := some 7, op := Op.assign (Operand.tmp 27), guard := none }]).seq
                    ((IC.ops
                          [{ dst := some 28, op := Op.move (Operand.tmp 7), guard := none },
                            { dst := some 29, op := Op.binOp BinOp.add 3 (Operand.const (Value.int IntKind.i64 (Int.ofNat 1))) (Operand.tmp 28) 3, guard := none },
                            { dst := some 30, op := Op.slice 103 (Operand.tmp 5) (some (Operand.const (Value.int IntKind.i64 (Int.ofNat 1)))) (some (Operand.tmp 29)) none, guard := none },
                            { dst := some 31, op := Op.move (Operand.tmp 6), guard := none },
                            { dst := some 32, op := Op.call { callee := Callee.value (Operand.func 46), args := { toList := [Operand.tmp 30, Operand.tmp 31] }, argTypes := { toList := [107, 104] } },
                              guard := none }]).seq
                      (((IC.ops
                                [{ dst := some 33, op := Op.move (Operand.tmp 0), guard := none },
                                  { dst := some 34, op := Op.binOp BinOp.lss 2 (Operand.tmp 33) (Operand.const (Value.int IntKind.i64 (Int.ofNat 0))) 2, guard := none }]).seq
                            (IC.cond (Operand.tmp 34)
                              ((IC.ops
                                    [{ dst := some 35, op := Op.indexAddr 103 (Operand.tmp 5) (Operand.const (Value.int IntKind.i64 (Int.ofNat 0))), guard := none },
                                      { dst := none, op := Op.store 5 (Operand.tmp 35) (Operand.const (Value.int IntKind.u8 (Int.ofNat 45))), guard := none }]).seq
                                ((IC.ops
                                      [{ dst := some 36, op := Op.move (Operand.tmp 7), guard := none },
                                        { dst := some 37, op := Op.binOp BinOp.add 3 (Operand.const (Value.int IntKind.i64 (Int.ofNat 1))) (Operand.tmp 36) 3, guard := none },
                                        { dst := some 38, op := Op.slice 103 (Operand.tmp 5) none (some (Operand.tmp 37)) none, guard := none },
                                        { dst := some 39, op := Op.convert 107 9 (Operand.tmp 38), guard := none }, { dst := some 4, op := Op.assign (Operand.tmp 39), guard := none }]).seq
                                  IC.ret))
                              IC.skip)).seq
                        ((IC.ops
                              [{ dst := some 40, op := Op.move (Operand.tmp 7), guard := none },
                                { dst := some 41, op := Op.binOp BinOp.add 3 (Operand.const (Value.int IntKind.i64 (Int.ofNat 1))) (Operand.tmp 40) 3, guard := none },
                                { dst := some 42, op := Op.slice 103 (Operand.tmp 5) (some (Operand.const (Value.int IntKind.i64 (Int.ofNat 1)))) (some (Operand.tmp 41)) none, guard := none },
                                { dst := some 43, op := Op.convert 107 9 (Operand.tmp 42), guard := none }, { dst := some 4, op := Op.assign (Operand.tmp 43), guard := none }]).seq
                          IC.ret))))))))
          IC.skip)).seq
    ((IC.ops
          [{ dst := some 45, op := Op.move (Operand.tmp 0), guard := none }, { dst := some 46, op := Op.convert 2 104 (Operand.tmp 45), guard := none },
            { dst := some 47, op := Op.move (Operand.tmp 1), guard := none }, { dst := some 48, op := Op.move (Operand.tmp 0), guard := none },
            { dst := some 49, op := Op.binOp BinOp.lss 2 (Operand.tmp 48) (Operand.const (Value.int IntKind.i64 (Int.ofNat 0))) 2, guard := none },
            { dst := some 50,
              op :=
                Op.call
                  { callee := Callee.value (Operand.func 47),
                    args := { toList := [Operand.const (Value.slice none 0 0), Operand.tmp 46, Operand.tmp 47, Operand.tmp 49, Operand.const (Value.bool false)] },
                    argTypes := { toList := [107, 104, 3, 4, 4] } },
              guard := none },
            { dst := some 44, op := Op.move (Operand.tmp 50), guard := none }, { dst := some 51, op := Op.extract (Operand.tmp 44) 0, guard := none },
            { dst := some 52, op := Op.extract (Operand.tmp 44) 1, guard := none }, { dst := some 8, op := Op.assign (Operand.tmp 51), guard := none },
            { dst := some 9, op := Op.assign (Operand.tmp 52), guard := none }]).seq
      ((IC.ops [{ dst := some 53, op := Op.move (Operand.tmp 9), guard := none }, { dst := some 4, op := Op.assign (Operand.tmp 53), guard := none }]).seq IC.ret)))
theorem ic43_eq : Tryd.f43.body.map comp = some ic43 := by kernel_rfl
theorem ic43_ok : Tryd.f43.body.map (okC Tryd.f43.ntmps) = some true := by kernel_rfl
theorem ic43_nm : (Tryd.f43.name != "runtime.NumGoroutine") = true := by kernel_rfl
@[simp] theorem ic43_n : Tryd.f43.ntmps = 54 := by kernel_rfl
@[simp] theorem ic43_r : Tryd.f43.results.toList = [ResultVar.tmp 4] := by kernel_rfl

def ic44 : IC :=
  (IC.ops [{ dst := some 2, op := Op.assign (Operand.const (Value.string { data := { toList := [] } })), guard := none }]).seq
  (((IC.ops
            [{ dst := some 3, op := Op.move (Operand.tmp 0), guard := none },
              { dst := some 4, op := Op.binOp BinOp.lss 3 (Operand.tmp 3) (Operand.const (Value.int IntKind.i64 (Int.ofNat 10))) 3, guard := none }]).seq
        (IC.cond (Operand.tmp 4)
          ((IC.ops
                [{ dst := some 5, op := Op.move (Operand.tmp 0), guard := none }, { dst := some 6, op := Op.move (Operand.tmp 0), guard := none },
                  { dst := some 7, op := Op.binOp BinOp.add 3 (Operand.tmp 6) (Operand.const (Value.int IntKind.i64 (Int.ofNat 1))) 3, guard := none },
                  { dst := some 8,
                    op :=
                      Op.slice 9
                        (Operand.const
                          (Value.string lit2))
                        (some (Operand.tmp 5)) (some (Operand.tmp 7)) none,
                    guard := none },
                  { dst := some 2, op := Op.assign (Operand.tmp 8), guard := none }]).seq
            IC.ret)
          IC.skip)).seq
    ((IC.ops
          [{ dst := some 9, op := Op.move (Operand.tmp 0), guard := none },
            { dst := some 10, op := Op.binOp BinOp.mul 3 (Operand.tmp 9) (Operand.const (Value.int IntKind.i64 (Int.ofNat 2))) 3, guard := none },
            { dst := some 11, op := Op.move (Operand.tmp 0), guard := none },
            { dst := some 12, op := Op.binOp BinOp.mul 3 (Operand.tmp 11) (Operand.const (Value.int IntKind.i64 (Int.ofNat 2))) 3, guard := none },
            { dst := some 13, op := Op.binOp BinOp.add 3 (Operand.tmp 12) (Operand.const (Value.int IntKind.i64 (Int.ofNat 2))) 3, guard := none },
            { dst := some 14,
              op :=
                Op.slice 9
                  (Operand.const
                    (Value.string lit3))
                  (some (Operand.tmp 10)) (some (Operand.tmp 13)) none,
              guard := none },
            { dst := some 2, op := Op.assign (Operand.tmp 14), guard := none }]).seq
      IC.ret))
theorem ic44_eq : Tryd.f44.body.map comp = some ic44 := by kernel_rfl
theorem ic44_ok : Tryd.f44.body.map (okC Tryd.f44.ntmps) = some true := by kernel_rfl
theorem ic44_nm : (Tryd.f44.name != "runtime.NumGoroutine") = true := by kernel_rfl
@[simp] theorem ic44_n : Tryd.f44.ntmps = 15 := by kernel_rfl
@[simp] theorem ic44_r : Tryd.f44.results.toList = [ResultVar.tmp 2] := by kernel_rfl

def ic45 : IC :=
  (IC.ops [{ dst := some 2, op := Op.assign (Operand.const (Value.int IntKind.i64 (Int.ofNat 0))), guard := none }]).seq
  ((IC.ops
        [{ dst := some 4, op := Op.move (Operand.tmp 0), guard := none },
          { dst := some 5, op := Op.call { callee := Callee.value (Operand.func 49), args := { toList := [Operand.tmp 4] }, argTypes := { toList := [104] } }, guard := none },
          { dst := some 6, op := Op.call { callee := Callee.value (Operand.func 48), args := { toList := [Operand.tmp 5] }, argTypes := { toList := [3] } }, guard := none },
          { dst := some 3, op := Op.assign (Operand.tmp 6), guard := none }]).seq
    ((IC.ops
          [{ dst := some 7, op := Op.move (Operand.tmp 3), guard := none }, { dst := some 8, op := Op.move (Operand.tmp 0), guard := none },
            { dst := some 9, op := Op.move (Operand.tmp 3), guard := none }, { dst := some 10, op := Op.indexAddr 112 (Operand.global 1) (Operand.tmp 9), guard := none },
            { dst := some 11, op := Op.load 104 (Operand.tmp 10), guard := none }, { dst := some 12, op := Op.binOp BinOp.geq 104 (Operand.tmp 8) (Operand.tmp 11) 104, guard := none },
            { dst := some 13, op := Op.call { callee := Callee.value (Operand.func 50), args := { toList := [Operand.tmp 12] }, argTypes := { toList := [4] } }, guard := none },
            { dst := some 14, op := Op.binOp BinOp.add 3 (Operand.tmp 7) (Operand.tmp 13) 3, guard := none }, { dst := some 2, op := Op.assign (Operand.tmp 14), guard := none }]).seq
      IC.ret))
theorem ic45_eq : Tryd.f45.body.map comp = some ic45 := by kernel_rfl
theorem ic45_ok : Tryd.f45.body.map (okC Tryd.f45.ntmps) = some true := by kernel_rfl
theorem ic45_nm : (Tryd.f45.name != "runtime.NumGoroutine") = true := by kernel_rfl
@[simp] theorem ic45_n : Tryd.f45.ntmps = 15 := by kernel_rfl
@[simp] theorem ic45_r : Tryd.f45.results.toList = [ResultVar.tmp 2] := by kernel_rfl

def ic46 : IC :=
  (IC.ops
      [{ dst := some 17, op := Op.move (Operand.tmp 0), guard := none },
        { dst := some 18, op := Op.call { callee := Callee.builtin Builtin.len, args := { toList := [Operand.tmp 17] }, argTypes := { toList := [107] } }, guard := none },
        { dst := some 4, op := Op.assign (Operand.tmp 18), guard := none }]).seq
  ((IC.block 0
        (((IC.ops
                    [{ dst := some 19, op := Op.move (Operand.tmp 4), guard := none },
                      { dst := some 20, op := Op.binOp BinOp.geq 3 (Operand.tmp 19) (Operand.const (Value.int IntKind.i64 (Int.ofNat 8))) 3, guard := none }]).seq
                (IC.cond (Operand.tmp 20) IC.skip (IC.exit 0))).seq
            (IC.block 1
              ((IC.ops
                    [{ dst := some 21, op := Op.move (Operand.tmp 1), guard := none },
                      { dst := some 22, op := Op.binOp BinOp.rem 104 (Operand.tmp 21) (Operand.const (Value.int IntKind.u64 (Int.ofNat 100000000))) 104, guard := none },
                      { dst := some 23, op := Op.convert 104 113 (Operand.tmp 22), guard := none }, { dst := some 5, op := Op.assign (Operand.tmp 23), guard := none }]).seq
                ((IC.ops
                      [{ dst := some 24, op := Op.move (Operand.tmp 1), guard := none },
                        { dst := some 25, op := Op.binOp BinOp.quo 104 (Operand.tmp 24) (Operand.const (Value.int IntKind.u64 (Int.ofNat 100000000))) 104, guard := none },
                        { dst := some 1, op := Op.assign (Operand.tmp 25), guard := none }]).seq
                  ((IC.ops
                        [{ dst := some 26, op := Op.move (Operand.tmp 5), guard := none },
                          { dst := some 27, op := Op.binOp BinOp.quo 113 (Operand.tmp 26) (Operand.const (Value.int IntKind.u32 (Int.ofNat 10000))) 113, guard := none },
                          { dst := some 28, op := Op.move (Operand.tmp 5), guard := none },
                          { dst := some 29, op := Op.binOp BinOp.rem 113 (Operand.tmp 28) (Operand.const (Value.int IntKind.u32 (Int.ofNat 10000))) 113, guard := none },
                          { dst := some 6, op := Op.assign (Operand.tmp 27), guard := none }, { dst := some 7, op := Op.assign (Operand.tmp 29), guard := none }]).seq
                    ((IC.ops
                          [{ dst := some 30, op := Op.move (Operand.tmp 7), guard := none },
                            { dst := some 31, op := Op.binOp BinOp.quo 113 (Operand.tmp 30) (Operand.const (Value.int IntKind.u32 (Int.ofNat 100))) 113, guard := none },
                            { dst := some 32, op := Op.binOp BinOp.mul 113 (Operand.tmp 31) (Operand.const (Value.int IntKind.u32 (Int.ofNat 2))) 113, guard := none },
                            { dst := some 33, op := Op.move (Operand.tmp 7), guard := none },
                            { dst := some 34, op := Op.binOp BinOp.rem 113 (Operand.tmp 33) (Operand.const (Value.int IntKind.u32 (Int.ofNat 100))) 113, guard := none },
                            { dst := some 35, op := Op.binOp BinOp.mul 113 (Operand.tmp 34) (Operand.const (Value.int IntKind.u32 (Int.ofNat 2))) 113, guard := none },
                            { dst := some 8, op := Op.assign (Operand.tmp 32), guard := none }, { dst := some 9, op := Op.assign (Operand.tmp 35), guard := none }]).seq
                      ((IC.ops
                            [{ dst := some 36, op := Op.move (Operand.tmp 6), guard := none },
                              { dst := some 37, op := Op.binOp BinOp.quo 113 (Operand.tmp 36) (Operand.const (Value.int IntKind.u32 (Int.ofNat 100))) 113, guard := none },
                              { dst := some 38, op := Op.binOp BinOp.mul 113 (Operand.tmp 37) (Operand.const (Value.int IntKind.u32 (Int.ofNat 2))) 113, guard := none },
                              { dst := some 39, op := Op.move (Operand.tmp 6), guard := none },
                              { dst := some 40, op := Op.binOp BinOp.rem 113 (Operand.tmp 39) (Operand.const (Value.int IntKind.u32 (Int.ofNat 100))) 113, guard := none },
                              { dst := some 41, op := Op.binOp BinOp.mul 113 (Operand.tmp 40) (Operand.const (Value.int IntKind.u32 (Int.ofNat 2))) 113, guard := none },
                              { dst := some 10, op := Op.assign (Operand.tmp 38), guard := none }, { dst := some 11, op := Op.assign (Operand.tmp 41), guard := none }]).seq
                        ((IC.opsD
                              [{ dst := some 42, op := Op.move (Operand.tmp 0), guard := none }, { dst := some 43, op := Op.move (Operand.tmp 4), guard := none },
                                { dst := some 44, op := Op.binOp BinOp.sub 3 (Operand.tmp 43) (Operand.const (Value.int IntKind.i64 (Int.ofNat 1))) 3, guard := none, bef := [1] },
                                { dst := some 45, op := Op.move (Operand.tmp 0), guard := none }, { dst := some 46, op := Op.move (Operand.tmp 4), guard := none },
                                { dst := some 47, op := Op.binOp BinOp.sub 3 (Operand.tmp 46) (Operand.const (Value.int IntKind.i64 (Int.ofNat 2))) 3, guard := none, bef := [4] },
                                { dst := some 48, op := Op.move (Operand.tmp 9), guard := none },
                                { dst := some 49, op := Op.binOp BinOp.add 113 (Operand.tmp 48) (Operand.const (Value.int IntKind.u32 (Int.ofNat 1))) 113, guard := none, bef := [6] },
                                { dst := some 50,
                                  op :=
                                    Op.index 9
                                      (Operand.const
                                        (Value.string lit3))
                                      (Operand.tmp 49),
                                  guard := none, bef := [7, 6] },
                                { dst := some 51, op := Op.move (Operand.tmp 9), guard := none },
                                { dst := some 52,
                                  op :=
                                    Op.index 9
                                      (Operand.const
                                        (Value.string lit3))
                                      (Operand.tmp 51),
                                  guard := none, bef := [9] },
                                { dst := some 53, op := Op.indexAddr 107 (Operand.tmp 42) (Operand.tmp 44), guard := none, bef := [0, 2, 1, 6, 7, 8] },
                                { dst := none, op := Op.store 5 (Operand.tmp 53) (Operand.tmp 50), guard := none, bef := [11, 0, 2, 1, 6, 7, 8] },
                                { dst := some 54, op := Op.indexAddr 107 (Operand.tmp 45) (Operand.tmp 47), guard := none, bef := [3, 5, 4, 0, 1, 2, 6, 7, 8, 9, 10, 11, 12] },
                                { dst := none, op := Op.store 5 (Operand.tmp 54) (Operand.tmp 52), guard := none, bef := [13, 3, 5, 4, 0, 1, 2, 6, 7, 8, 9, 10, 11, 12] }]).seq
                          ((IC.opsD
                                [{ dst := some 55, op := Op.move (Operand.tmp 0), guard := none }, { dst := some 56, op := Op.move (Operand.tmp 4), guard := none },
                                  { dst := some 57, op := Op.binOp BinOp.sub 3 (Operand.tmp 56) (Operand.const (Value.int IntKind.i64 (Int.ofNat 3))) 3, guard := none, bef := [1] },
                                  { dst := some 58, op := Op.move (Operand.tmp 0), guard := none }, { dst := some 59, op := Op.move (Operand.tmp 4), guard := none },
                                  { dst := some 60, op := Op.binOp BinOp.sub 3 (Operand.tmp 59) (Operand.const (Value.int IntKind.i64 (Int.ofNat 4))) 3, guard := none, bef := [4] },
                                  { dst := some 61, op := Op.move (Operand.tmp 8), guard := none },
                                  { dst := some 62, op := Op.binOp BinOp.add 113 (Operand.tmp 61) (Operand.const (Value.int IntKind.u32 (Int.ofNat 1))) 113, guard := none, bef := [6] },
                                  { dst := some 63,
                                    op :=
                                      Op.index 9
                                        (Operand.const
                                          (Value.string lit3))
                                        (Operand.tmp 62),
                                    guard := none, bef := [7, 6] },
                                  { dst := some 64, op := Op.move (Operand.tmp 8), guard := none },
                                  { dst := some 65,
                                    op :=
                                      Op.index 9
                                        (Operand.const
                                          (Value.string lit3))
                                        (Operand.tmp 64),
                                    guard := none, bef := [9] },
                                  { dst := some 66, op := Op.indexAddr 107 (Operand.tmp 55) (Operand.tmp 57), guard := none, bef := [0, 2, 1, 6, 7, 8] },
                                  { dst := none, op := Op.store 5 (Operand.tmp 66) (Operand.tmp 63), guard := none, bef := [11, 0, 2, 1, 6, 7, 8] },
                                  { dst := some 67, op := Op.indexAddr 107 (Operand.tmp 58) (Operand.tmp 60), guard := none, bef := [3, 5, 4, 0, 1, 2, 6, 7, 8, 9, 10, 11, 12] },
                                  { dst := none, op := Op.store 5 (Operand.tmp 67) (Operand.tmp 65), guard := none, bef := [13, 3, 5, 4, 0, 1, 2, 6, 7, 8, 9, 10, 11, 12] }]).seq
                            ((IC.opsD
                                  [{ dst := some 68, op := Op.move (Operand.tmp 0), guard := none }, { dst := some 69, op := Op.move (Operand.tmp 4), guard := none },
                                    { dst := some 70, op := Op.binOp BinOp.sub 3 (Operand.tmp 69) (Operand.const (Value.int IntKind.i64 (Int.ofNat 5))) 3, guard := none, bef := [1] },
                                    { dst := some 71, op := Op.move (Operand.tmp 0), guard := none }, { dst := some 72, op := Op.move (Operand.tmp 4), guard := none },
                                    { dst := some 73, op := Op.binOp BinOp.sub 3 (Operand.tmp 72) (Operand.const (Value.int IntKind.i64 (Int.ofNat 6))) 3, guard := none, bef := [4] },
                                    { dst := some 74, op := Op.move (Operand.tmp 11), guard := none },
                                    { dst := some 75, op := Op.binOp BinOp.add 113 (Operand.tmp 74) (Operand.const (Value.int IntKind.u32 (Int.ofNat 1))) 113, guard := none, bef := [6] },
                                    { dst := some 76,
                                      op :=
                                        Op.index 9
                                          (Operand.const
                                            (Value.string lit3))
                                          (Operand.tmp 75),
                                      guard := none, bef := [7, 6] },
                                    { dst := some 77, op := Op.move (Operand.tmp 11), guard := none },
                                    { dst := some 78,
                                      op :=
                                        Op.index 9
                                          (Operand.const
                                            (Value.string lit3))
                                          (Operand.tmp 77),
                                      guard := none, bef := [9] },
                                    { dst := some 79, op := Op.indexAddr 107 (Operand.tmp 68) (Operand.tmp 70), guard := none, bef := [0, 2, 1, 6, 7, 8] },
                                    { dst := none, op := Op.store 5 (Operand.tmp 79) (Operand.tmp 76), guard := none, bef := [11, 0, 2, 1, 6, 7, 8] },
                                    { dst := some 80, op := Op.indexAddr 107 (Operand.tmp 71) (Operand.tmp 73), guard := none, bef := [3, 5, 4, 0, 1, 2, 6, 7, 8, 9, 10, 11, 12] },
                                    { dst := none, op := Op.store 5 (Operand.tmp 80) (Operand.tmp 78), guard := none, bef := [13, 3, 5, 4, 0, 1, 2, 6, 7, 8, 9, 10, 11, 12] }]).seq
                              ((IC.opsD
                                    [{ dst := some 81, op := Op.move (Operand.tmp 0), guard := none }, { dst := some 82, op := Op.move (Operand.tmp 4), guard := none },
                                      { dst := some 83, op := Op.binOp BinOp.sub 3 (Operand.tmp 82) (Operand.const (Value.int IntKind.i64 (Int.ofNat 7))) 3, guard := none, bef := [1] },
                                      { dst := some 84, op := Op.move (Operand.tmp 0), guard := none }, { dst := some 85, op := Op.move (Operand.tmp 4), guard := none },
                                      { dst := some 86, op := Op.binOp BinOp.sub 3 (Operand.tmp 85) (Operand.const (Value.int IntKind.i64 (Int.ofNat 8))) 3, guard := none, bef := [4] },
                                      { dst := some 87, op := Op.move (Operand.tmp 10), guard := none },
                                      { dst := some 88, op := Op.binOp BinOp.add 113 (Operand.tmp 87) (Operand.const (Value.int IntKind.u32 (Int.ofNat 1))) 113, guard := none, bef := [6] },
                                      { dst := some 89,
                                        op :=
                                          Op.index 9
                                            (Operand.const
                                              (Value.string lit3))
                                            (Operand.tmp 88),
                                        guard := none, bef := [7, 6] },
                                      { dst := some 90, op := Op.move (Operand.tmp 10), guard := none },
                                      { dst := some 91,
                                        op :=
                                          Op.index 9
                                            (Operand.const
                                              (Value.string lit3))
                                            (Operand.tmp 90),
                                        guard := none, bef := [9] },
                                      { dst := some 92, op := Op.indexAddr 107 (Operand.tmp 81) (Operand.tmp 83), guard := none, bef := [0, 2, 1, 6, 7, 8] },
                                      { dst := none, op := Op.store 5 (Operand.tmp 92) (Operand.tmp 89), guard := none, bef := [11, 0, 2, 1, 6, 7, 8] },
                                      { dst := some 93, op := Op.indexAddr 107 (Operand.tmp 84) (Operand.tmp 86), guard := none, bef := [3, 5, 4, 0, 1, 2, 6, 7, 8, 9, 10, 11, 12] },
                                      { dst := none, op := Op.store 5 (Operand.tmp 93) (Operand.tmp 91), guard := none, bef := [13, 3, 5, 4, 0, 1, 2, 6, 7, 8, 9, 10, 11, 12] }]).seq
                                (IC.ops
                                  [{ dst := some 94, op := Op.move (Operand.tmp 4), guard := none },
                                    { dst := some 95, op := Op.binOp BinOp.sub 3 (Operand.tmp 94) (Operand.const (Value.int IntKind.i64 (Int.ofNat 8))) 3, guard := none },
                                    { dst := some 4, op := Op.assign (Operand.tmp 95), guard := none }])))))))))))).loop).seq
    ((IC.ops
          [{ dst := some 96, op := Op.move (Operand.tmp 1), guard := none }, { dst := some 97, op := Op.convert 104 113 (Operand.tmp 96), guard := none },
            { dst := some 12, op := Op.assign (Operand.tmp 97), guard := none }]).seq
      (((IC.ops
                [{ dst := some 98, op := Op.move (Operand.tmp 4), guard := none },
                  { dst := some 99, op := Op.binOp BinOp.geq 3 (Operand.tmp 98) (Operand.const (Value.int IntKind.i64 (Int.ofNat 4))) 3, guard := none }]).seq
            (IC.cond (Operand.tmp 99)
              ((IC.ops
                    [{ dst := some 100, op := Op.move (Operand.tmp 12), guard := none },
                      { dst := some 101, op := Op.binOp BinOp.rem 113 (Operand.tmp 100) (Operand.const (Value.int IntKind.u32 (Int.ofNat 10000))) 113, guard := none },
                      { dst := some 13, op := Op.assign (Operand.tmp 101), guard := none }]).seq
                ((IC.ops
                      [{ dst := some 102, op := Op.move (Operand.tmp 12), guard := none },
                        { dst := some 103, op := Op.binOp BinOp.quo 113 (Operand.tmp 102) (Operand.const (Value.int IntKind.u32 (Int.ofNat 10000))) 113, guard := none },
                        { dst := some 12, op := Op.assign (Operand.tmp 103), guard := none }]).seq
                  ((IC.ops
                        [{ dst := some 104, op := Op.move (Operand.tmp 13), guard := none },
                          { dst := some 105, op := Op.binOp BinOp.quo 113 (Operand.tmp 104) (Operand.const (Value.int IntKind.u32 (Int.ofNat 100))) 113, guard := none },
                          { dst := some 106, op := Op.binOp BinOp.mul 113 (Operand.tmp 105) (Operand.const (Value.int IntKind.u32 (Int.ofNat 2))) 113, guard := none },
                          { dst := some 107, op := Op.move (Operand.tmp 13), guard := none },
                          { dst := some 108, op := Op.binOp BinOp.rem 113 (Operand.tmp 107) (Operand.const (Value.int IntKind.u32 (Int.ofNat 100))) 113, guard := none },
                          { dst := some 109, op := Op.binOp BinOp.mul 113 (Operand.tmp 108) (Operand.const (Value.int IntKind.u32 (Int.ofNat 2))) 113, guard := none },
                          { dst := some 14, op := Op.assign (Operand.tmp 106), guard := none }, { dst := some 15, op := Op.assign (Operand.tmp 109), guard := none }]).seq
                    ((IC.opsD
                          [{ dst := some 110, op := Op.move (Operand.tmp 0), guard := none }, { dst := some 111, op := Op.move (Operand.tmp 4), guard := none },
                            { dst := some 112, op := Op.binOp BinOp.sub 3 (Operand.tmp 111) (Operand.const (Value.int IntKind.i64 (Int.ofNat 1))) 3, guard := none, bef := [1] },
                            { dst := some 113, op := Op.move (Operand.tmp 0), guard := none }, { dst := some 114, op := Op.move (Operand.tmp 4), guard := none },
                            { dst := some 115, op := Op.binOp BinOp.sub 3 (Operand.tmp 114) (Operand.const (Value.int IntKind.i64 (Int.ofNat 2))) 3, guard := none, bef := [4] },
                            { dst := some 116, op := Op.move (Operand.tmp 15), guard := none },
                            { dst := some 117, op := Op.binOp BinOp.add 113 (Operand.tmp 116) (Operand.const (Value.int IntKind.u32 (Int.ofNat 1))) 113, guard := none, bef := [6] },
                            { dst := some 118,
                              op :=
                                Op.index 9
                                  (Operand.const
                                    (Value.string lit3))
                                  (Operand.tmp 117),
                              guard := none, bef := [7, 6] },
                            { dst := some 119, op := Op.move (Operand.tmp 15), guard := none },
                            { dst := some 120,
                              op :=
                                Op.index 9
                                  (Operand.const
                                    (Value.string lit3))
                                  (Operand.tmp 119),
                              guard := none, bef := [9] },
                            { dst := some 121, op := Op.indexAddr 107 (Operand.tmp 110) (Operand.tmp 112), guard := none, bef := [0, 2, 1, 6, 7, 8] },
                            { dst := none, op := Op.store 5 (Operand.tmp 121) (Operand.tmp 118), guard := none, bef := [11, 0, 2, 1, 6, 7, 8] },
                            { dst := some 122, op := Op.indexAddr 107 (Operand.tmp 113) (Operand.tmp 115), guard := none, bef := [3, 5, 4, 0, 1, 2, 6, 7, 8, 9, 10, 11, 12] },
                            { dst := none, op := Op.store 5 (Operand.tmp 122) (Operand.tmp 120), guard := none, bef := [13, 3, 5, 4, 0, 1, 2, 6, 7, 8, 9, 10, 11, 12] }]).seq
                      ((IC.opsD
                            [{ dst := some 123, op := Op.move (Operand.tmp 0), guard := none }, { dst := some 124, op := Op.move (Operand.tmp 4), guard := none },
                              { dst := some 125, op := Op.binOp BinOp.sub 3 (Operand.tmp 124) (Operand.const (Value.int IntKind.i64 (Int.ofNat 3))) 3, guard := none, bef := [1] },
                              { dst := some 126, op := Op.move (Operand.tmp 0), guard := none }, { dst := some 127, op := Op.move (Operand.tmp 4), guard := none },
                              { dst := some 128, op := Op.binOp BinOp.sub 3 (Operand.tmp 127) (Operand.const (Value.int IntKind.i64 (Int.ofNat 4))) 3, guard := none, bef := [4] },
                              { dst := some 129, op := Op.move (Operand.tmp 14), guard := none },
                              { dst := some 130, op := Op.binOp BinOp.add 113 (Operand.tmp 129) (Operand.const (Value.int IntKind.u32 (Int.ofNat 1))) 113, guard := none, bef := [6] },
                              { dst := some 131,
                                op :=
                                  Op.index 9
                                    (Operand.const
                                      (Value.string lit3))
                                    (Operand.tmp 130),
                                guard := none, bef := [7, 6] },
                              { dst := some 132, op := Op.move (Operand.tmp 14), guard := none },
                              { dst := some 133,
                                op :=
                                  Op.index 9
                                    (Operand.const
                                      (Value.string lit3))
                                    (Operand.tmp 132),
                                guard := none, bef := [9] },
                              { dst := some 134, op := Op.indexAddr 107 (Operand.tmp 123) (Operand.tmp 125), guard := none, bef := [0, 2, 1, 6, 7, 8] },
                              { dst := none, op := Op.store 5 (Operand.tmp 134) (Operand.tmp 131), guard := none, bef := [11, 0, 2, 1, 6, 7, 8] },
                              { dst := some 135, op := Op.indexAddr 107 (Operand.tmp 126) (Operand.tmp 128), guard := none, bef := [3, 5, 4, 0, 1, 2, 6, 7, 8, 9, 10, 11, 12] },
                              { dst := none, op := Op.store 5 (Operand.tmp 135) (Operand.tmp 133), guard := none, bef := [13, 3, 5, 4, 0, 1, 2, 6, 7, 8, 9, 10, 11, 12] }]).seq
                        (IC.ops
                          [{ dst := some 136, op := Op.move (Operand.tmp 4), guard := none },
                            { dst := some 137, op := Op.binOp BinOp.sub 3 (Operand.tmp 136) (Operand.const (Value.int IntKind.i64 (Int.ofNat 4))) 3, guard := none },
                            { dst := some 4, op := Op.assign (Operand.tmp 137), guard := none }]))))))
              IC.skip)).seq
        (((IC.ops
                  [{ dst := some 138, op := Op.move (Operand.tmp 4), guard := none },
                    { dst := some 139, op := Op.binOp BinOp.geq 3 (Operand.tmp 138) (Operand.const (Value.int IntKind.i64 (Int.ofNat 2))) 3, guard := none }]).seq
              (IC.cond (Operand.tmp 139)
                ((IC.ops
                      [{ dst := some 140, op := Op.move (Operand.tmp 12), guard := none },
                        { dst := some 141, op := Op.binOp BinOp.rem 113 (Operand.tmp 140) (Operand.const (Value.int IntKind.u32 (Int.ofNat 100))) 113, guard := none },
                        { dst := some 142, op := Op.binOp BinOp.mul 113 (Operand.tmp 141) (Operand.const (Value.int IntKind.u32 (Int.ofNat 2))) 113, guard := none },
                        { dst := some 16, op := Op.assign (Operand.tmp 142), guard := none }]).seq
                  ((IC.ops
                        [{ dst := some 143, op := Op.move (Operand.tmp 12), guard := none },
                          { dst := some 144, op := Op.binOp BinOp.quo 113 (Operand.tmp 143) (Operand.const (Value.int IntKind.u32 (Int.ofNat 100))) 113, guard := none },
                          { dst := some 12, op := Op.assign (Operand.tmp 144), guard := none }]).seq
                    ((IC.opsD
                          [{ dst := some 145, op := Op.move (Operand.tmp 0), guard := none }, { dst := some 146, op := Op.move (Operand.tmp 4), guard := none },
                            { dst := some 147, op := Op.binOp BinOp.sub 3 (Operand.tmp 146) (Operand.const (Value.int IntKind.i64 (Int.ofNat 1))) 3, guard := none, bef := [1] },
                            { dst := some 148, op := Op.move (Operand.tmp 0), guard := none }, { dst := some 149, op := Op.move (Operand.tmp 4), guard := none },
                            { dst := some 150, op := Op.binOp BinOp.sub 3 (Operand.tmp 149) (Operand.const (Value.int IntKind.i64 (Int.ofNat 2))) 3, guard := none, bef := [4] },
                            { dst := some 151, op := Op.move (Operand.tmp 16), guard := none },
                            { dst := some 152, op := Op.binOp BinOp.add 113 (Operand.tmp 151) (Operand.const (Value.int IntKind.u32 (Int.ofNat 1))) 113, guard := none, bef := [6] },
                            { dst := some 153,
                              op :=
                                Op.index 9
                                  (Operand.const
                                    (Value.string lit3))
                                  (Operand.tmp 152),
                              guard := none, bef := [7, 6] },
                            { dst := some 154, op := Op.move (Operand.tmp 16), guard := none },
                            { dst := some 155,
                              op :=
                                Op.index 9
                                  (Operand.const
                                    (Value.string lit3))
                                  (Operand.tmp 154),
                              guard := none, bef := [9] },
                            { dst := some 156, op := Op.indexAddr 107 (Operand.tmp 145) (Operand.tmp 147), guard := none, bef := [0, 2, 1, 6, 7, 8] },
                            { dst := none, op := Op.store 5 (Operand.tmp 156) (Operand.tmp 153), guard := none, bef := [11, 0, 2, 1, 6, 7, 8] },
                            { dst := some 157, op := Op.indexAddr 107 (Operand.tmp 148) (Operand.tmp 150), guard := none, bef := [3, 5, 4, 0, 1, 2, 6, 7, 8, 9, 10, 11, 12] },
                            { dst := none, op := Op.store 5 (Operand.tmp 157) (Operand.tmp 155), guard := none, bef := [13, 3, 5, 4, 0, 1, 2, 6, 7, 8, 9, 10, 11, 12] }]).seq
                      (IC.ops
                        [{ dst := some 158, op := Op.move (Operand.tmp 4), guard := none },
                          { dst := some 159, op := Op.binOp BinOp.sub 3 (Operand.tmp 158) (Operand.const (Value.int IntKind.i64 (Int.ofNat 2))) 3, guard := none },
                          { dst := some 4, op := Op.assign (Operand.tmp 159), guard := none }]))))
                IC.skip)).seq
          ((IC.ops
                [{ dst := some 160, op := Op.move (Operand.tmp 4), guard := none },
                  { dst := some 161, op := Op.binOp BinOp.gtr 3 (Operand.tmp 160) (Operand.const (Value.int IntKind.i64 (Int.ofNat 0))) 3, guard := none }]).seq
            (IC.cond (Operand.tmp 161)
              (IC.ops
                [{ dst := some 162, op := Op.move (Operand.tmp 0), guard := none }, { dst := some 163, op := Op.move (Operand.tmp 12), guard := none },
                  { dst := some 164, op := Op.binOp BinOp.add 113 (Operand.const (Value.int IntKind.u32 (Int.ofNat 48))) (Operand.tmp 163) 113, guard := none },
                  { dst := some 165, op := Op.convert 113 5 (Operand.tmp 164), guard := none },
                  { dst := some 166, op := Op.indexAddr 107 (Operand.tmp 162) (Operand.const (Value.int IntKind.i64 (Int.ofNat 0))), guard := none },
                  { dst := none, op := Op.store 5 (Operand.tmp 166) (Operand.tmp 165), guard := none }])
              IC.skip))))))
theorem ic46_eq : Tryd.f46.body.map comp = some ic46 := by kernel_rfl
theorem ic46_ok : Tryd.f46.body.map (okC Tryd.f46.ntmps) = some true := by kernel_rfl
theorem ic46_nm : (Tryd.f46.name != "runtime.NumGoroutine") = true := by kernel_rfl
@[simp] theorem ic46_n : Tryd.f46.ntmps = 167 := by kernel_rfl
@[simp] theorem ic46_r : Tryd.f46.results.toList = [] := by kernel_rfl


end Go.Proofs.YtnoigkdecjeilaaDoor
