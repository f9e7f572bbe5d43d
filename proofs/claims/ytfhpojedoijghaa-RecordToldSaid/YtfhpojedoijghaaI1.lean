/- Contracts of functions of the seat's program, and what follows of them: I1. Conditions are in each statement. -/
import Derived.Test.YtfhpojedoijghaaRows
import Derived.Test.YtfhpojedoijghaaV3
set_option linter.unusedSimpArgs false
set_option linter.unusedVariables false
namespace Go.Proofs.Ytfhpojedoijghaa
open Go Go.Proofs Go.Vm

def ic3 : IC :=
  (IC.ops [{ dst := some 4, op := Op.assign (Operand.const (Value.bool false)), guard := none }]).seq
  (((IC.ops
            [{ dst := some 13, op := Op.call { callee := Callee.value (Operand.func 8), args := { toList := [] }, argTypes := { toList := [] } }, guard := none },
              { dst := some 14, op := Op.unOp UnOp.not 4 (Operand.tmp 13), guard := none }, { dst := some 15, op := Op.move (Operand.tmp 14), guard := none },
              { dst := some 16, op := Op.move (Operand.tmp 0), guard := some (some 15, false) },
              { dst := some 17, op := Op.call { callee := Callee.builtin Builtin.len, args := { toList := [Operand.tmp 16] }, argTypes := { toList := [22] } }, guard := some (some 15, false) },
              { dst := some 18, op := Op.binOp BinOp.gtr 3 (Operand.tmp 17) (Operand.const (Value.int IntKind.i64 (Int.ofNat 30))) 3, guard := some (some 15, false) },
              { dst := some 19, op := Op.pick (Operand.tmp 15) (Operand.const (Value.bool true)) (Operand.tmp 18), guard := none }, { dst := some 20, op := Op.move (Operand.tmp 19), guard := none },
              { dst := some 21, op := Op.move (Operand.tmp 1), guard := some (some 20, false) },
              { dst := some 22, op := Op.call { callee := Callee.builtin Builtin.len, args := { toList := [Operand.tmp 21] }, argTypes := { toList := [23] } }, guard := some (some 20, false) },
              { dst := some 23, op := Op.binOp BinOp.gtr 3 (Operand.tmp 22) (Operand.const (Value.int IntKind.i64 (Int.ofNat 300))) 3, guard := some (some 20, false) },
              { dst := some 24, op := Op.pick (Operand.tmp 20) (Operand.const (Value.bool true)) (Operand.tmp 23), guard := none }]).seq
        (IC.cond (Operand.tmp 24)
          ((IC.ops
                [{ dst := some 25, op := Op.call { callee := Callee.value (Operand.func 8), args := { toList := [] }, argTypes := { toList := [] } }, guard := none },
                  { dst := some 4, op := Op.assign (Operand.tmp 25), guard := none }]).seq
            IC.ret)
          IC.skip)).seq
    ((IC.ops
          [{ dst := some 27, op := Op.move (Operand.tmp 0), guard := none },
            { dst := some 28, op := Op.call { callee := Callee.value (Operand.func 9), args := { toList := [Operand.tmp 27] }, argTypes := { toList := [22] } }, guard := none },
            { dst := some 26, op := Op.move (Operand.tmp 28), guard := none }, { dst := some 29, op := Op.extract (Operand.tmp 26) 0, guard := none },
            { dst := some 30, op := Op.extract (Operand.tmp 26) 1, guard := none }, { dst := some 5, op := Op.assign (Operand.tmp 29), guard := none },
            { dst := some 6, op := Op.assign (Operand.tmp 30), guard := none }]).seq
      (((IC.ops
                [{ dst := some 31, op := Op.move (Operand.tmp 6), guard := none },
                  { dst := some 32, op := Op.binOp BinOp.eql 26 (Operand.tmp 31) (Operand.const Value.nilIface) 26, guard := none }]).seq
            (IC.cond (Operand.tmp 32)
              ((IC.ops
                    [{ dst := some 34, op := Op.move (Operand.tmp 5), guard := none },
                      { dst := some 35, op := Op.call { callee := Callee.value (Operand.func 10), args := { toList := [Operand.tmp 34] }, argTypes := { toList := [23] } }, guard := none },
                      { dst := some 33, op := Op.move (Operand.tmp 35), guard := none }, { dst := some 36, op := Op.extract (Operand.tmp 33) 0, guard := none },
                      { dst := some 37, op := Op.extract (Operand.tmp 33) 1, guard := none }, { dst := some 7, op := Op.assign (Operand.tmp 36), guard := none },
                      { dst := some 8, op := Op.assign (Operand.tmp 37), guard := none }]).seq
                ((IC.ops
                      [{ dst := some 38, op := Op.move (Operand.tmp 8), guard := none },
                        { dst := some 39, op := Op.binOp BinOp.neq 26 (Operand.tmp 38) (Operand.const Value.nilIface) 26, guard := none },
                        { dst := some 40, op := Op.move (Operand.tmp 39), guard := none }, { dst := some 41, op := Op.move (Operand.tmp 0), guard := some (some 40, false) },
                        { dst := some 42, op := Op.move (Operand.tmp 7), guard := some (some 40, false) },
                        { dst := some 43, op := Op.call { callee := Callee.value (Operand.func 11), args := { toList := [Operand.tmp 41, Operand.tmp 42] }, argTypes := { toList := [22, 22] } },
                          guard := some (some 40, false) },
                        { dst := some 44, op := Op.unOp UnOp.not 4 (Operand.tmp 43), guard := some (some 40, false) },
                        { dst := some 45, op := Op.pick (Operand.tmp 40) (Operand.const (Value.bool true)) (Operand.tmp 44), guard := none },
                        { dst := some 46, op := Op.move (Operand.tmp 45), guard := none }, { dst := some 47, op := Op.move (Operand.tmp 5), guard := some (some 46, false) },
                        { dst := some 48, op := Op.call { callee := Callee.builtin Builtin.len, args := { toList := [Operand.tmp 47] }, argTypes := { toList := [23] } },
                          guard := some (some 46, false) },
                        { dst := some 49, op := Op.move (Operand.tmp 0), guard := some (some 46, false) },
                        { dst := some 50, op := Op.call { callee := Callee.builtin Builtin.len, args := { toList := [Operand.tmp 49] }, argTypes := { toList := [22] } },
                          guard := some (some 46, false) },
                        { dst := some 51, op := Op.binOp BinOp.mul 3 (Operand.const (Value.int IntKind.i64 (Int.ofNat 6))) (Operand.tmp 50) 3, guard := some (some 46, false) },
                        { dst := some 52, op := Op.binOp BinOp.add 3 (Operand.const (Value.int IntKind.i64 (Int.ofNat 4))) (Operand.tmp 51) 3, guard := some (some 46, false) },
                        { dst := some 53, op := Op.binOp BinOp.neq 3 (Operand.tmp 48) (Operand.tmp 52) 3, guard := some (some 46, false) },
                        { dst := some 54, op := Op.pick (Operand.tmp 46) (Operand.const (Value.bool true)) (Operand.tmp 53), guard := none }]).seq
                  (IC.cond (Operand.tmp 54) ((IC.ops [{ dst := some 4, op := Op.assign (Operand.const (Value.bool false)), guard := none }]).seq IC.ret) IC.skip)))
              IC.skip)).seq
        ((IC.ops
              [{ dst := some 56, op := Op.move (Operand.tmp 1), guard := none },
                { dst := some 57, op := Op.call { callee := Callee.value (Operand.func 10), args := { toList := [Operand.tmp 56] }, argTypes := { toList := [23] } }, guard := none },
                { dst := some 55, op := Op.move (Operand.tmp 57), guard := none }, { dst := some 58, op := Op.extract (Operand.tmp 55) 0, guard := none },
                { dst := some 59, op := Op.extract (Operand.tmp 55) 1, guard := none }, { dst := some 9, op := Op.assign (Operand.tmp 58), guard := none },
                { dst := some 10, op := Op.assign (Operand.tmp 59), guard := none }]).seq
          (((IC.ops
                    [{ dst := some 60, op := Op.move (Operand.tmp 10), guard := none },
                      { dst := some 61, op := Op.binOp BinOp.neq 26 (Operand.tmp 60) (Operand.const Value.nilIface) 26, guard := none }]).seq
                (IC.cond (Operand.tmp 61)
                  ((IC.ops
                        [{ dst := some 62, op := Op.move (Operand.tmp 9), guard := none },
                          { dst := some 63, op := Op.call { callee := Callee.builtin Builtin.len, args := { toList := [Operand.tmp 62] }, argTypes := { toList := [22] } }, guard := none },
                          { dst := some 64, op := Op.binOp BinOp.eql 3 (Operand.tmp 63) (Operand.const (Value.int IntKind.i64 (Int.ofNat 0))) 3, guard := none },
                          { dst := some 4, op := Op.assign (Operand.tmp 64), guard := none }]).seq
                    IC.ret)
                  IC.skip)).seq
            ((IC.ops
                  [{ dst := some 66, op := Op.move (Operand.tmp 9), guard := none },
                    { dst := some 67, op := Op.call { callee := Callee.value (Operand.func 9), args := { toList := [Operand.tmp 66] }, argTypes := { toList := [22] } }, guard := none },
                    { dst := some 65, op := Op.move (Operand.tmp 67), guard := none }, { dst := some 68, op := Op.extract (Operand.tmp 65) 0, guard := none },
                    { dst := some 69, op := Op.extract (Operand.tmp 65) 1, guard := none }, { dst := some 11, op := Op.assign (Operand.tmp 68), guard := none },
                    { dst := some 12, op := Op.assign (Operand.tmp 69), guard := none }]).seq
              ((IC.ops
                    [{ dst := some 70, op := Op.move (Operand.tmp 12), guard := none },
                      { dst := some 71, op := Op.binOp BinOp.eql 26 (Operand.tmp 70) (Operand.const Value.nilIface) 26, guard := none },
                      { dst := some 72, op := Op.move (Operand.tmp 71), guard := none }, { dst := some 73, op := Op.move (Operand.tmp 11), guard := some (some 72, true) },
                      { dst := some 74, op := Op.move (Operand.tmp 1), guard := some (some 72, true) },
                      { dst := some 75, op := Op.call { callee := Callee.value (Operand.func 12), args := { toList := [Operand.tmp 73, Operand.tmp 74] }, argTypes := { toList := [23, 23] } },
                        guard := some (some 72, true) },
                      { dst := some 76, op := Op.pick (Operand.tmp 72) (Operand.tmp 75) (Operand.const (Value.bool false)), guard := none },
                      { dst := some 4, op := Op.assign (Operand.tmp 76), guard := none }]).seq
                IC.ret)))))))
theorem ic3_eq : Try.f3.body.map comp = some ic3 := by kernel_rfl
theorem ic3_ok : Try.f3.body.map (okC Try.f3.ntmps) = some true := by kernel_rfl
theorem ic3_nm : (Try.f3.name != "runtime.NumGoroutine") = true := by kernel_rfl
@[simp] theorem ic3_n : Try.f3.ntmps = 77 := by kernel_rfl
@[simp] theorem ic3_r : Try.f3.results.toList = [ResultVar.tmp 4] := by kernel_rfl

def ic4 : IC :=
  (IC.ops [{ dst := some 10, op := Op.assign (Operand.const (Value.bool false)), guard := none }]).seq
  (((IC.ops
            [{ dst := some 23, op := Op.call { callee := Callee.value (Operand.func 8), args := { toList := [] }, argTypes := { toList := [] } }, guard := none },
              { dst := some 24, op := Op.unOp UnOp.not 4 (Operand.tmp 23), guard := none }, { dst := some 25, op := Op.move (Operand.tmp 24), guard := none },
              { dst := some 26, op := Op.move (Operand.tmp 0), guard := some (some 25, false) },
              { dst := some 27, op := Op.call { callee := Callee.builtin Builtin.len, args := { toList := [Operand.tmp 26] }, argTypes := { toList := [22] } }, guard := some (some 25, false) },
              { dst := some 28, op := Op.binOp BinOp.gtr 3 (Operand.tmp 27) (Operand.const (Value.int IntKind.i64 (Int.ofNat 30))) 3, guard := some (some 25, false) },
              { dst := some 29, op := Op.pick (Operand.tmp 25) (Operand.const (Value.bool true)) (Operand.tmp 28), guard := none }]).seq
        (IC.cond (Operand.tmp 29)
          ((IC.ops
                [{ dst := some 30, op := Op.call { callee := Callee.value (Operand.func 8), args := { toList := [] }, argTypes := { toList := [] } }, guard := none },
                  { dst := some 10, op := Op.assign (Operand.tmp 30), guard := none }]).seq
            IC.ret)
          IC.skip)).seq
    ((IC.ops
          [{ dst := some 32, op := Op.move (Operand.tmp 0), guard := none },
            { dst := some 33, op := Op.call { callee := Callee.value (Operand.func 9), args := { toList := [Operand.tmp 32] }, argTypes := { toList := [22] } }, guard := none },
            { dst := some 31, op := Op.move (Operand.tmp 33), guard := none }, { dst := some 34, op := Op.extract (Operand.tmp 31) 0, guard := none },
            { dst := some 35, op := Op.extract (Operand.tmp 31) 1, guard := none }, { dst := some 11, op := Op.assign (Operand.tmp 34), guard := none },
            { dst := some 12, op := Op.assign (Operand.tmp 35), guard := none }]).seq
      (((IC.ops
                [{ dst := some 36, op := Op.move (Operand.tmp 12), guard := none }, { dst := some 37, op := Op.binOp BinOp.neq 26 (Operand.tmp 36) (Operand.const Value.nilIface) 26, guard := none },
                  { dst := some 38, op := Op.move (Operand.tmp 37), guard := none }, { dst := some 39, op := Op.move (Operand.tmp 11), guard := some (some 38, false) },
                  { dst := some 40, op := Op.call { callee := Callee.builtin Builtin.len, args := { toList := [Operand.tmp 39] }, argTypes := { toList := [23] } }, guard := some (some 38, false) },
                  { dst := some 41, op := Op.binOp BinOp.lss 3 (Operand.tmp 40) (Operand.const (Value.int IntKind.i64 (Int.ofNat 4))) 3, guard := some (some 38, false) },
                  { dst := some 42, op := Op.pick (Operand.tmp 38) (Operand.const (Value.bool true)) (Operand.tmp 41), guard := none }]).seq
            (IC.cond (Operand.tmp 42)
              ((IC.ops
                    [{ dst := some 43, op := Op.move (Operand.tmp 12), guard := none },
                      { dst := some 44, op := Op.binOp BinOp.neq 26 (Operand.tmp 43) (Operand.const Value.nilIface) 26, guard := none },
                      { dst := some 10, op := Op.assign (Operand.tmp 44), guard := none }]).seq
                IC.ret)
              IC.skip)).seq
        ((IC.ops
              [{ dst := some 45, op := Op.buildSlice 23 0 { toList := [] }, guard := none }, { dst := some 46, op := Op.move (Operand.tmp 11), guard := none },
                { dst := some 47, op := Op.call { callee := Callee.builtin Builtin.append, args := { toList := [Operand.tmp 45, Operand.tmp 46] }, argTypes := { toList := [23, 23] } },
                  guard := none },
                { dst := some 13, op := Op.assign (Operand.tmp 47), guard := none }]).seq
          ((IC.ops
                [{ dst := some 48, op := Op.move (Operand.tmp 1), guard := none }, { dst := some 49, op := Op.convert 34 3 (Operand.tmp 48), guard := none },
                  { dst := some 50, op := Op.move (Operand.tmp 11), guard := none },
                  { dst := some 51, op := Op.call { callee := Callee.builtin Builtin.len, args := { toList := [Operand.tmp 50] }, argTypes := { toList := [23] } }, guard := none },
                  { dst := some 52, op := Op.binOp BinOp.mul 3 (Operand.const (Value.int IntKind.i64 (Int.ofNat 8))) (Operand.tmp 51) 3, guard := none },
                  { dst := some 53, op := Op.binOp BinOp.rem 3 (Operand.tmp 49) (Operand.tmp 52) 3, guard := none }, { dst := some 14, op := Op.assign (Operand.tmp 53), guard := none }]).seq
            ((IC.ops [{ dst := some 15, op := Op.assign (Operand.const (Value.bool false)), guard := none }]).seq
              (((IC.ops [{ dst := some 16, op := Op.assign (Operand.const (Value.int IntKind.i64 (Int.ofNat 0))), guard := none }]).seq
                    (IC.block 0
                      (((IC.ops
                                  [{ dst := some 54, op := Op.move (Operand.tmp 16), guard := none },
                                    { dst := some 55, op := Op.binOp BinOp.lss 3 (Operand.tmp 54) (Operand.const (Value.int IntKind.i64 (Int.ofNat 16))) 3, guard := none },
                                    { dst := some 56, op := Op.move (Operand.tmp 55), guard := none }, { dst := some 57, op := Op.move (Operand.tmp 14), guard := some (some 56, true) },
                                    { dst := some 58, op := Op.move (Operand.tmp 16), guard := some (some 56, true) },
                                    { dst := some 59, op := Op.binOp BinOp.add 3 (Operand.tmp 57) (Operand.tmp 58) 3, guard := some (some 56, true) },
                                    { dst := some 60, op := Op.move (Operand.tmp 11), guard := some (some 56, true) },
                                    { dst := some 61, op := Op.call { callee := Callee.builtin Builtin.len, args := { toList := [Operand.tmp 60] }, argTypes := { toList := [23] } },
                                      guard := some (some 56, true) },
                                    { dst := some 62, op := Op.binOp BinOp.mul 3 (Operand.const (Value.int IntKind.i64 (Int.ofNat 8))) (Operand.tmp 61) 3, guard := some (some 56, true) },
                                    { dst := some 63, op := Op.binOp BinOp.lss 3 (Operand.tmp 59) (Operand.tmp 62) 3, guard := some (some 56, true) },
                                    { dst := some 64, op := Op.pick (Operand.tmp 56) (Operand.tmp 63) (Operand.const (Value.bool false)), guard := none }]).seq
                              (IC.cond (Operand.tmp 64) IC.skip (IC.exit 0))).seq
                          ((IC.block 1
                                ((IC.ops
                                      [{ dst := some 67, op := Op.move (Operand.tmp 2), guard := none }, { dst := some 68, op := Op.move (Operand.tmp 16), guard := none },
                                        { dst := some 69, op := Op.binOp BinOp.shr 34 (Operand.tmp 67) (Operand.tmp 68) 3, guard := none },
                                        { dst := some 70, op := Op.binOp BinOp.and 34 (Operand.tmp 69) (Operand.const (Value.int IntKind.u16 (Int.ofNat 1))) 34, guard := none },
                                        { dst := some 71, op := Op.binOp BinOp.eql 34 (Operand.tmp 70) (Operand.const (Value.int IntKind.u16 (Int.ofNat 1))) 34, guard := none }]).seq
                                  (IC.cond (Operand.tmp 71)
                                    ((IC.opsD
                                          [{ dst := some 72, op := Op.move (Operand.tmp 13), guard := none }, { dst := some 73, op := Op.move (Operand.tmp 14), guard := none },
                                            { dst := some 74, op := Op.move (Operand.tmp 16), guard := none },
                                            { dst := some 75, op := Op.binOp BinOp.add 3 (Operand.tmp 73) (Operand.tmp 74) 3, guard := none, bef := [1, 2] },
                                            { dst := some 76, op := Op.binOp BinOp.quo 3 (Operand.tmp 75) (Operand.const (Value.int IntKind.i64 (Int.ofNat 8))) 3, guard := none, bef := [3, 1, 2] },
                                            { dst := some 77, op := Op.indexAddr 23 (Operand.tmp 72) (Operand.tmp 76), guard := none, bef := [0, 4, 3, 1, 2] },
                                            { dst := some 78, op := Op.load 5 (Operand.tmp 77), guard := none, bef := [5, 0, 4, 3, 1, 2] },
                                            { dst := some 79, op := Op.move (Operand.tmp 14), guard := none }, { dst := some 80, op := Op.move (Operand.tmp 16), guard := none },
                                            { dst := some 81, op := Op.binOp BinOp.add 3 (Operand.tmp 79) (Operand.tmp 80) 3, guard := none, bef := [7, 8] },
                                            { dst := some 82, op := Op.binOp BinOp.rem 3 (Operand.tmp 81) (Operand.const (Value.int IntKind.i64 (Int.ofNat 8))) 3, guard := none, bef := [9, 7, 8] },
                                            { dst := some 83, op := Op.binOp BinOp.shr 5 (Operand.const (Value.int IntKind.u8 (Int.ofNat 128))) (Operand.tmp 82) 3, guard := none,
                                              bef := [10, 9, 7, 8] },
                                            { dst := some 84, op := Op.binOp BinOp.xor 5 (Operand.tmp 78) (Operand.tmp 83) 5, guard := none, bef := [6, 5, 0, 4, 3, 1, 2, 11, 10, 9, 7, 8] },
                                            { dst := some 85, op := Op.indexAddr 23 (Operand.tmp 72) (Operand.tmp 76), guard := none, bef := [0, 4, 3, 1, 2, 5, 6, 7, 8, 9, 10, 11, 12] },
                                            { dst := none, op := Op.store 5 (Operand.tmp 85) (Operand.tmp 84), guard := none, bef := [13, 0, 4, 3, 1, 2, 5, 6, 7, 8, 9, 10, 11, 12] }]).seq
                                      (IC.ops [{ dst := some 15, op := Op.assign (Operand.const (Value.bool true)), guard := none }]))
                                    IC.skip))).seq
                            (IC.ops
                              [{ dst := some 65, op := Op.move (Operand.tmp 16), guard := none },
                                { dst := some 66, op := Op.binOp BinOp.add 3 (Operand.tmp 65) (Operand.const (Value.int IntKind.i64 (Int.ofNat 1))) 3, guard := none },
                                { dst := some 16, op := Op.assign (Operand.tmp 66), guard := none }]))).loop)).seq
                ((IC.ops
                      [{ dst := some 87, op := Op.move (Operand.tmp 13), guard := none },
                        { dst := some 88, op := Op.call { callee := Callee.value (Operand.func 10), args := { toList := [Operand.tmp 87] }, argTypes := { toList := [23] } }, guard := none },
                        { dst := some 86, op := Op.move (Operand.tmp 88), guard := none }, { dst := some 89, op := Op.extract (Operand.tmp 86) 0, guard := none },
                        { dst := some 90, op := Op.extract (Operand.tmp 86) 1, guard := none }, { dst := some 17, op := Op.assign (Operand.tmp 89), guard := none },
                        { dst := some 18, op := Op.assign (Operand.tmp 90), guard := none }]).seq
                  ((IC.ops
                        [{ dst := some 92, op := Op.move (Operand.tmp 11), guard := none }, { dst := some 93, op := Op.move (Operand.tmp 3), guard := none },
                          { dst := some 94, op := Op.convert 34 3 (Operand.tmp 93), guard := none }, { dst := some 95, op := Op.move (Operand.tmp 11), guard := none },
                          { dst := some 96, op := Op.call { callee := Callee.builtin Builtin.len, args := { toList := [Operand.tmp 95] }, argTypes := { toList := [23] } }, guard := none },
                          { dst := some 97, op := Op.binOp BinOp.rem 3 (Operand.tmp 94) (Operand.tmp 96) 3, guard := none },
                          { dst := some 98, op := Op.slice 23 (Operand.tmp 92) none (some (Operand.tmp 97)) none, guard := none },
                          { dst := some 99, op := Op.call { callee := Callee.value (Operand.func 10), args := { toList := [Operand.tmp 98] }, argTypes := { toList := [23] } }, guard := none },
                          { dst := some 91, op := Op.move (Operand.tmp 99), guard := none }, { dst := some 100, op := Op.extract (Operand.tmp 91) 0, guard := none },
                          { dst := some 101, op := Op.extract (Operand.tmp 91) 1, guard := none }, { dst := some 19, op := Op.assign (Operand.tmp 100), guard := none },
                          { dst := some 20, op := Op.assign (Operand.tmp 101), guard := none }]).seq
                    ((IC.ops
                          [{ dst := some 103, op := Op.buildSlice 23 0 { toList := [] }, guard := none }, { dst := some 104, op := Op.move (Operand.tmp 11), guard := none },
                            { dst := some 105, op := Op.call { callee := Callee.builtin Builtin.append, args := { toList := [Operand.tmp 103, Operand.tmp 104] }, argTypes := { toList := [23, 23] } },
                              guard := none },
                            { dst := some 106, op := Op.move (Operand.tmp 4), guard := none }, { dst := some 107, op := Op.buildSlice 23 1 { toList := [(0, Operand.tmp 106)] }, guard := none },
                            { dst := some 108, op := Op.call { callee := Callee.builtin Builtin.append, args := { toList := [Operand.tmp 105, Operand.tmp 107] }, argTypes := { toList := [23, 23] } },
                              guard := none },
                            { dst := some 109, op := Op.call { callee := Callee.value (Operand.func 10), args := { toList := [Operand.tmp 108] }, argTypes := { toList := [23] } }, guard := none },
                            { dst := some 102, op := Op.move (Operand.tmp 109), guard := none }, { dst := some 110, op := Op.extract (Operand.tmp 102) 0, guard := none },
                            { dst := some 111, op := Op.extract (Operand.tmp 102) 1, guard := none }, { dst := some 21, op := Op.assign (Operand.tmp 110), guard := none },
                            { dst := some 22, op := Op.assign (Operand.tmp 111), guard := none }]).seq
                      ((IC.ops
                            [{ dst := some 112, op := Op.move (Operand.tmp 18), guard := none },
                              { dst := some 113, op := Op.binOp BinOp.neq 26 (Operand.tmp 112) (Operand.const Value.nilIface) 26, guard := none },
                              { dst := some 114, op := Op.move (Operand.tmp 15), guard := none }, { dst := some 115, op := Op.binOp BinOp.eql 4 (Operand.tmp 113) (Operand.tmp 114) 4, guard := none },
                              { dst := some 116, op := Op.move (Operand.tmp 115), guard := none }, { dst := some 117, op := Op.move (Operand.tmp 20), guard := some (some 116, true) },
                              { dst := some 118, op := Op.binOp BinOp.neq 26 (Operand.tmp 117) (Operand.const Value.nilIface) 26, guard := some (some 116, true) },
                              { dst := some 119, op := Op.pick (Operand.tmp 116) (Operand.tmp 118) (Operand.const (Value.bool false)), guard := none },
                              { dst := some 120, op := Op.move (Operand.tmp 119), guard := none }, { dst := some 121, op := Op.move (Operand.tmp 22), guard := some (some 120, true) },
                              { dst := some 122, op := Op.binOp BinOp.neq 26 (Operand.tmp 121) (Operand.const Value.nilIface) 26, guard := some (some 120, true) },
                              { dst := some 123, op := Op.pick (Operand.tmp 120) (Operand.tmp 122) (Operand.const (Value.bool false)), guard := none },
                              { dst := some 10, op := Op.assign (Operand.tmp 123), guard := none }]).seq
                        IC.ret)))))))))))
theorem ic4_eq : Try.f4.body.map comp = some ic4 := by kernel_rfl
theorem ic4_ok : Try.f4.body.map (okC Try.f4.ntmps) = some true := by kernel_rfl
theorem ic4_nm : (Try.f4.name != "runtime.NumGoroutine") = true := by kernel_rfl
@[simp] theorem ic4_n : Try.f4.ntmps = 124 := by kernel_rfl
@[simp] theorem ic4_r : Try.f4.results.toList = [ResultVar.tmp 10] := by kernel_rfl

def ic5 : IC :=
  (IC.ops [{ dst := some 6, op := Op.assign (Operand.const (Value.bool false)), guard := none }]).seq
  (((IC.ops
            [{ dst := some 11, op := Op.call { callee := Callee.value (Operand.func 8), args := { toList := [] }, argTypes := { toList := [] } }, guard := none },
              { dst := some 12, op := Op.unOp UnOp.not 4 (Operand.tmp 11), guard := none }, { dst := some 13, op := Op.move (Operand.tmp 12), guard := none },
              { dst := some 14, op := Op.move (Operand.tmp 0), guard := some (some 13, false) },
              { dst := some 15, op := Op.call { callee := Callee.builtin Builtin.len, args := { toList := [Operand.tmp 14] }, argTypes := { toList := [23] } }, guard := some (some 13, false) },
              { dst := some 16, op := Op.binOp BinOp.gtr 3 (Operand.tmp 15) (Operand.const (Value.int IntKind.i64 (Int.ofNat 300))) 3, guard := some (some 13, false) },
              { dst := some 17, op := Op.pick (Operand.tmp 13) (Operand.const (Value.bool true)) (Operand.tmp 16), guard := none }, { dst := some 18, op := Op.move (Operand.tmp 17), guard := none },
              { dst := some 19, op := Op.move (Operand.tmp 1), guard := some (some 18, false) },
              { dst := some 20, op := Op.call { callee := Callee.builtin Builtin.len, args := { toList := [Operand.tmp 19] }, argTypes := { toList := [23] } }, guard := some (some 18, false) },
              { dst := some 21, op := Op.move (Operand.tmp 0), guard := some (some 18, false) },
              { dst := some 22, op := Op.call { callee := Callee.builtin Builtin.len, args := { toList := [Operand.tmp 21] }, argTypes := { toList := [23] } }, guard := some (some 18, false) },
              { dst := some 23, op := Op.binOp BinOp.lss 3 (Operand.tmp 20) (Operand.tmp 22) 3, guard := some (some 18, false) },
              { dst := some 24, op := Op.pick (Operand.tmp 18) (Operand.const (Value.bool true)) (Operand.tmp 23), guard := none }, { dst := some 25, op := Op.move (Operand.tmp 24), guard := none },
              { dst := some 26, op := Op.move (Operand.tmp 2), guard := some (some 25, false) },
              { dst := some 27, op := Op.call { callee := Callee.builtin Builtin.len, args := { toList := [Operand.tmp 26] }, argTypes := { toList := [23] } }, guard := some (some 25, false) },
              { dst := some 28, op := Op.move (Operand.tmp 0), guard := some (some 25, false) },
              { dst := some 29, op := Op.call { callee := Callee.builtin Builtin.len, args := { toList := [Operand.tmp 28] }, argTypes := { toList := [23] } }, guard := some (some 25, false) },
              { dst := some 30, op := Op.binOp BinOp.lss 3 (Operand.tmp 27) (Operand.tmp 29) 3, guard := some (some 25, false) },
              { dst := some 31, op := Op.pick (Operand.tmp 25) (Operand.const (Value.bool true)) (Operand.tmp 30), guard := none }]).seq
        (IC.cond (Operand.tmp 31)
          ((IC.ops
                [{ dst := some 32, op := Op.call { callee := Callee.value (Operand.func 8), args := { toList := [] }, argTypes := { toList := [] } }, guard := none },
                  { dst := some 6, op := Op.assign (Operand.tmp 32), guard := none }]).seq
            IC.ret)
          IC.skip)).seq
    ((IC.ops
          [{ dst := some 33, op := Op.move (Operand.tmp 0), guard := none },
            { dst := some 34, op := Op.call { callee := Callee.builtin Builtin.len, args := { toList := [Operand.tmp 33] }, argTypes := { toList := [23] } }, guard := none },
            { dst := some 7, op := Op.assign (Operand.tmp 34), guard := none }]).seq
      ((IC.ops [{ dst := some 8, op := Op.assign (Operand.const (Value.slice none 0 0)), guard := none }]).seq
        (((IC.ops
                  [{ dst := some 35, op := Op.move (Operand.tmp 0), guard := none },
                    { dst := some 36, op := Op.call { callee := Callee.builtin Builtin.len, args := { toList := [Operand.tmp 35] }, argTypes := { toList := [23] } }, guard := none },
                    { dst := some 37, op := Op.move (Operand.const (Value.int IntKind.i64 (Int.ofNat 0))), guard := none }]).seq
              (IC.block 0
                ((IC.ops [{ dst := some 38, op := Op.binOp BinOp.lss 3 (Operand.tmp 37) (Operand.tmp 36) 3, guard := none }]).seq
                    ((IC.cond (Operand.tmp 38) IC.skip (IC.exit 0)).seq
                      ((IC.block 1
                            ((IC.ops [{ dst := some 39, op := Op.move (Operand.tmp 37), guard := none }, { dst := some 9, op := Op.assign (Operand.tmp 39), guard := none }]).seq
                              (IC.opsD
                                [{ dst := some 40, op := Op.move (Operand.tmp 8), guard := none }, { dst := some 41, op := Op.move (Operand.tmp 0), guard := none },
                                  { dst := some 42, op := Op.move (Operand.tmp 9), guard := none },
                                  { dst := some 43, op := Op.indexAddr 23 (Operand.tmp 41) (Operand.tmp 42), guard := none, bef := [1, 2] },
                                  { dst := some 44, op := Op.load 5 (Operand.tmp 43), guard := none, bef := [3, 1, 2] }, { dst := some 45, op := Op.move (Operand.tmp 1), guard := none },
                                  { dst := some 46, op := Op.move (Operand.tmp 9), guard := none },
                                  { dst := some 47, op := Op.indexAddr 23 (Operand.tmp 45) (Operand.tmp 46), guard := none, bef := [5, 6] },
                                  { dst := some 48, op := Op.load 5 (Operand.tmp 47), guard := none, bef := [7, 5, 6] },
                                  { dst := some 49, op := Op.binOp BinOp.xor 5 (Operand.tmp 44) (Operand.tmp 48) 5, guard := none, bef := [4, 3, 1, 2, 8, 7, 5, 6] },
                                  { dst := some 50, op := Op.move (Operand.tmp 2), guard := none }, { dst := some 51, op := Op.move (Operand.tmp 9), guard := none },
                                  { dst := some 52, op := Op.indexAddr 23 (Operand.tmp 50) (Operand.tmp 51), guard := none, bef := [10, 11] },
                                  { dst := some 53, op := Op.load 5 (Operand.tmp 52), guard := none, bef := [12, 10, 11] },
                                  { dst := some 54, op := Op.binOp BinOp.xor 5 (Operand.tmp 49) (Operand.tmp 53) 5, guard := none, bef := [9, 4, 3, 1, 2, 8, 7, 5, 6, 13, 12, 10, 11] },
                                  { dst := some 55, op := Op.buildSlice 23 1 { toList := [(0, Operand.tmp 54)] }, guard := none, bef := [14, 9, 4, 3, 1, 2, 8, 7, 5, 6, 13, 12, 10, 11] },
                                  { dst := some 56,
                                    op := Op.call { callee := Callee.builtin Builtin.append, args := { toList := [Operand.tmp 40, Operand.tmp 55] }, argTypes := { toList := [23, 23] } },
                                    guard := none, bef := [0, 15, 14, 9, 4, 3, 1, 2, 8, 7, 5, 6, 13, 12, 10, 11] },
                                  { dst := some 8, op := Op.assign (Operand.tmp 56), guard := none, bef := [16, 0, 15, 14, 9, 4, 3, 1, 2, 8, 7, 5, 6, 13, 12, 10, 11] }]))).seq
                        (IC.ops
                          [{ dst := some 57, op := Op.binOp BinOp.add 3 (Operand.tmp 37) (Operand.const (Value.int IntKind.i64 (Int.ofNat 1))) 3, guard := none },
                            { dst := some 37, op := Op.move (Operand.tmp 57), guard := none }])))).loop)).seq
          ((IC.ops
                [{ dst := some 58, op := Op.move (Operand.tmp 8), guard := none },
                  { dst := some 59, op := Op.call { callee := Callee.value (Operand.func 13), args := { toList := [Operand.tmp 58] }, argTypes := { toList := [23] } }, guard := none },
                  { dst := some 10, op := Op.assign (Operand.tmp 59), guard := none }]).seq
            ((IC.opsD
                  [{ dst := some 60, op := Op.move (Operand.tmp 10), guard := none },
                    { dst := some 61, op := Op.binOp BinOp.geq 3 (Operand.tmp 60) (Operand.const (Value.int IntKind.i64 (Int.ofNat 0))) 3, guard := none, bef := [0] },
                    { dst := some 62, op := Op.move (Operand.tmp 61), guard := none, bef := [1, 0] },
                    { dst := some 63, op := Op.move (Operand.tmp 10), guard := some (some 62, true), bef := [2, 1, 0] },
                    { dst := some 64, op := Op.binOp BinOp.leq 3 (Operand.tmp 63) (Operand.const (Value.int IntKind.i64 (Int.ofNat 65535))) 3, guard := some (some 62, true), bef := [3, 2, 1, 0] },
                    { dst := some 65, op := Op.pick (Operand.tmp 62) (Operand.tmp 64) (Operand.const (Value.bool false)), guard := none, bef := [2, 1, 0, 4, 3] },
                    { dst := some 66, op := Op.move (Operand.tmp 65), guard := none, bef := [5, 2, 1, 0, 4, 3] },
                    { dst := some 67, op := Op.move (Operand.tmp 10), guard := some (some 66, true), bef := [6, 5, 2, 1, 0, 4, 3] },
                    { dst := some 68, op := Op.move (Operand.tmp 0), guard := some (some 66, true), bef := [6, 5, 2, 1, 0, 4, 3] },
                    { dst := some 69, op := Op.call { callee := Callee.value (Operand.func 13), args := { toList := [Operand.tmp 68] }, argTypes := { toList := [23] } }, guard := some (some 66, true),
                      bef := [8, 6, 5, 2, 1, 0, 4, 3] },
                    { dst := some 70, op := Op.move (Operand.tmp 1), guard := some (some 66, true), bef := [6, 5, 2, 1, 0, 4, 3] },
                    { dst := some 71, op := Op.move (Operand.tmp 7), guard := some (some 66, true), bef := [6, 5, 2, 1, 0, 4, 3] },
                    { dst := some 72, op := Op.slice 23 (Operand.tmp 70) none (some (Operand.tmp 71)) none, guard := some (some 66, true), bef := [10, 6, 5, 2, 1, 0, 4, 3, 11] },
                    { dst := some 73, op := Op.call { callee := Callee.value (Operand.func 13), args := { toList := [Operand.tmp 72] }, argTypes := { toList := [23] } }, guard := some (some 66, true),
                      bef := [12, 10, 6, 5, 2, 1, 0, 4, 3, 11, 9, 8] },
                    { dst := some 74, op := Op.binOp BinOp.xor 3 (Operand.tmp 69) (Operand.tmp 73) 3, guard := some (some 66, true), bef := [9, 8, 6, 5, 2, 1, 0, 4, 3, 13, 12, 10, 11] },
                    { dst := some 75, op := Op.move (Operand.tmp 2), guard := some (some 66, true), bef := [6, 5, 2, 1, 0, 4, 3] },
                    { dst := some 76, op := Op.move (Operand.tmp 7), guard := some (some 66, true), bef := [6, 5, 2, 1, 0, 4, 3] },
                    { dst := some 77, op := Op.slice 23 (Operand.tmp 75) none (some (Operand.tmp 76)) none, guard := some (some 66, true), bef := [15, 6, 5, 2, 1, 0, 4, 3, 16] },
                    { dst := some 78, op := Op.call { callee := Callee.value (Operand.func 13), args := { toList := [Operand.tmp 77] }, argTypes := { toList := [23] } }, guard := some (some 66, true),
                      bef := [17, 15, 6, 5, 2, 1, 0, 4, 3, 16, 13, 12, 10, 11, 9, 8] },
                    { dst := some 79, op := Op.binOp BinOp.xor 3 (Operand.tmp 74) (Operand.tmp 78) 3, guard := some (some 66, true),
                      bef := [14, 9, 8, 6, 5, 2, 1, 0, 4, 3, 13, 12, 10, 11, 18, 17, 15, 16] },
                    { dst := some 80, op := Op.binOp BinOp.eql 3 (Operand.tmp 67) (Operand.tmp 79) 3, guard := some (some 66, true),
                      bef := [7, 6, 5, 2, 1, 0, 4, 3, 19, 14, 9, 8, 13, 12, 10, 11, 18, 17, 15, 16] },
                    { dst := some 81, op := Op.pick (Operand.tmp 66) (Operand.tmp 80) (Operand.const (Value.bool false)), guard := none,
                      bef := [6, 5, 2, 1, 0, 4, 3, 20, 7, 19, 14, 9, 8, 13, 12, 10, 11, 18, 17, 15, 16] },
                    { dst := some 82, op := Op.move (Operand.tmp 81), guard := none, bef := [21, 6, 5, 2, 1, 0, 4, 3, 20, 7, 19, 14, 9, 8, 13, 12, 10, 11, 18, 17, 15, 16] },
                    { dst := some 83, op := Op.call { callee := Callee.value (Operand.func 13), args := { toList := [Operand.const (Value.slice none 0 0)] }, argTypes := { toList := [23] } },
                      guard := some (some 82, true), bef := [22, 21, 6, 5, 2, 1, 0, 4, 3, 20, 7, 19, 14, 9, 8, 13, 12, 10, 11, 18, 17, 15, 16] },
                    { dst := some 84, op := Op.binOp BinOp.eql 3 (Operand.tmp 83) (Operand.const (Value.int IntKind.i64 (Int.ofNat 65535))) 3, guard := some (some 82, true),
                      bef := [23, 22, 21, 6, 5, 2, 1, 0, 4, 3, 20, 7, 19, 14, 9, 8, 13, 12, 10, 11, 18, 17, 15, 16] },
                    { dst := some 85, op := Op.pick (Operand.tmp 82) (Operand.tmp 84) (Operand.const (Value.bool false)), guard := none,
                      bef := [22, 21, 6, 5, 2, 1, 0, 4, 3, 20, 7, 19, 14, 9, 8, 13, 12, 10, 11, 18, 17, 15, 16, 24, 23] },
                    { dst := some 6, op := Op.assign (Operand.tmp 85), guard := none, bef := [25, 22, 21, 6, 5, 2, 1, 0, 4, 3, 20, 7, 19, 14, 9, 8, 13, 12, 10, 11, 18, 17, 15, 16, 24, 23] }]).seq
              IC.ret))))))
theorem ic5_eq : Try.f5.body.map comp = some ic5 := by kernel_rfl
theorem ic5_ok : Try.f5.body.map (okC Try.f5.ntmps) = some true := by kernel_rfl
theorem ic5_nm : (Try.f5.name != "runtime.NumGoroutine") = true := by kernel_rfl
@[simp] theorem ic5_n : Try.f5.ntmps = 86 := by kernel_rfl
@[simp] theorem ic5_r : Try.f5.results.toList = [ResultVar.tmp 6] := by kernel_rfl

def ic6 : IC :=
  (IC.ops [{ dst := some 4, op := Op.assign (Operand.const (Value.bool false)), guard := none }]).seq
  (((IC.ops
            [{ dst := some 8, op := Op.call { callee := Callee.value (Operand.func 8), args := { toList := [] }, argTypes := { toList := [] } }, guard := none },
              { dst := some 9, op := Op.unOp UnOp.not 4 (Operand.tmp 8), guard := none }, { dst := some 10, op := Op.move (Operand.tmp 9), guard := none },
              { dst := some 11, op := Op.move (Operand.tmp 0), guard := some (some 10, false) },
              { dst := some 12, op := Op.call { callee := Callee.builtin Builtin.len, args := { toList := [Operand.tmp 11] }, argTypes := { toList := [23] } }, guard := some (some 10, false) },
              { dst := some 13, op := Op.binOp BinOp.gtr 3 (Operand.tmp 12) (Operand.const (Value.int IntKind.i64 (Int.ofNat 300))) 3, guard := some (some 10, false) },
              { dst := some 14, op := Op.pick (Operand.tmp 10) (Operand.const (Value.bool true)) (Operand.tmp 13), guard := none }]).seq
        (IC.cond (Operand.tmp 14)
          ((IC.ops
                [{ dst := some 15, op := Op.call { callee := Callee.value (Operand.func 8), args := { toList := [] }, argTypes := { toList := [] } }, guard := none },
                  { dst := some 4, op := Op.assign (Operand.tmp 15), guard := none }]).seq
            IC.ret)
          IC.skip)).seq
    ((IC.ops
          [{ dst := some 16, op := Op.move (Operand.tmp 0), guard := none },
            { dst := some 17, op := Op.call { callee := Callee.value (Operand.func 13), args := { toList := [Operand.tmp 16] }, argTypes := { toList := [23] } }, guard := none },
            { dst := some 5, op := Op.assign (Operand.tmp 17), guard := none }]).seq
      ((IC.ops
            [{ dst := some 18, op := Op.buildSlice 23 0 { toList := [] }, guard := none }, { dst := some 19, op := Op.move (Operand.tmp 0), guard := none },
              { dst := some 20, op := Op.call { callee := Callee.builtin Builtin.append, args := { toList := [Operand.tmp 18, Operand.tmp 19] }, argTypes := { toList := [23, 23] } }, guard := none },
              { dst := some 21, op := Op.move (Operand.tmp 5), guard := none },
              { dst := some 22, op := Op.binOp BinOp.shr 3 (Operand.tmp 21) (Operand.const (Value.int IntKind.u64 (Int.ofNat 8))) 38, guard := none },
              { dst := some 23, op := Op.convert 3 5 (Operand.tmp 22), guard := none }, { dst := some 24, op := Op.move (Operand.tmp 5), guard := none },
              { dst := some 25, op := Op.convert 3 5 (Operand.tmp 24), guard := none },
              { dst := some 26, op := Op.buildSlice 23 2 { toList := [(0, Operand.tmp 23), (1, Operand.tmp 25)] }, guard := none },
              { dst := some 27, op := Op.call { callee := Callee.builtin Builtin.append, args := { toList := [Operand.tmp 20, Operand.tmp 26] }, argTypes := { toList := [23, 23] } }, guard := none },
              { dst := some 6, op := Op.assign (Operand.tmp 27), guard := none }]).seq
        ((IC.ops
              [{ dst := some 28, op := Op.buildSlice 23 0 { toList := [] }, guard := none }, { dst := some 29, op := Op.move (Operand.tmp 0), guard := none },
                { dst := some 30, op := Op.call { callee := Callee.builtin Builtin.append, args := { toList := [Operand.tmp 28, Operand.tmp 29] }, argTypes := { toList := [23, 23] } },
                  guard := none },
                { dst := some 31, op := Op.move (Operand.tmp 1), guard := none },
                { dst := some 32, op := Op.binOp BinOp.shr 34 (Operand.tmp 31) (Operand.const (Value.int IntKind.u64 (Int.ofNat 8))) 38, guard := none },
                { dst := some 33, op := Op.convert 34 5 (Operand.tmp 32), guard := none }, { dst := some 34, op := Op.move (Operand.tmp 1), guard := none },
                { dst := some 35, op := Op.convert 34 5 (Operand.tmp 34), guard := none },
                { dst := some 36, op := Op.buildSlice 23 2 { toList := [(0, Operand.tmp 33), (1, Operand.tmp 35)] }, guard := none },
                { dst := some 37, op := Op.call { callee := Callee.builtin Builtin.append, args := { toList := [Operand.tmp 30, Operand.tmp 36] }, argTypes := { toList := [23, 23] } },
                  guard := none },
                { dst := some 7, op := Op.assign (Operand.tmp 37), guard := none }]).seq
          ((IC.ops
                [{ dst := some 38, op := Op.move (Operand.tmp 6), guard := none },
                  { dst := some 39, op := Op.call { callee := Callee.value (Operand.func 13), args := { toList := [Operand.tmp 38] }, argTypes := { toList := [23] } }, guard := none },
                  { dst := some 40, op := Op.binOp BinOp.eql 3 (Operand.tmp 39) (Operand.const (Value.int IntKind.i64 (Int.ofNat 0))) 3, guard := none },
                  { dst := some 41, op := Op.move (Operand.tmp 40), guard := none }, { dst := some 42, op := Op.move (Operand.tmp 7), guard := some (some 41, true) },
                  { dst := some 43, op := Op.call { callee := Callee.value (Operand.func 13), args := { toList := [Operand.tmp 42] }, argTypes := { toList := [23] } }, guard := some (some 41, true) },
                  { dst := some 44, op := Op.binOp BinOp.eql 3 (Operand.tmp 43) (Operand.const (Value.int IntKind.i64 (Int.ofNat 0))) 3, guard := some (some 41, true) },
                  { dst := some 45, op := Op.move (Operand.tmp 1), guard := some (some 41, true) }, { dst := some 46, op := Op.convert 34 3 (Operand.tmp 45), guard := some (some 41, true) },
                  { dst := some 47, op := Op.move (Operand.tmp 5), guard := some (some 41, true) },
                  { dst := some 48, op := Op.binOp BinOp.eql 3 (Operand.tmp 46) (Operand.tmp 47) 3, guard := some (some 41, true) },
                  { dst := some 49, op := Op.binOp BinOp.eql 4 (Operand.tmp 44) (Operand.tmp 48) 4, guard := some (some 41, true) },
                  { dst := some 50, op := Op.pick (Operand.tmp 41) (Operand.tmp 49) (Operand.const (Value.bool false)), guard := none },
                  { dst := some 4, op := Op.assign (Operand.tmp 50), guard := none }]).seq
            IC.ret)))))
theorem ic6_eq : Try.f6.body.map comp = some ic6 := by kernel_rfl
theorem ic6_ok : Try.f6.body.map (okC Try.f6.ntmps) = some true := by kernel_rfl
theorem ic6_nm : (Try.f6.name != "runtime.NumGoroutine") = true := by kernel_rfl
@[simp] theorem ic6_n : Try.f6.ntmps = 51 := by kernel_rfl
@[simp] theorem ic6_r : Try.f6.results.toList = [ResultVar.tmp 4] := by kernel_rfl

def ic7 : IC :=
  (IC.ops [{ dst := some 4, op := Op.assign (Operand.const (Value.bool false)), guard := none }]).seq
  (((IC.ops
            [{ dst := some 9, op := Op.call { callee := Callee.value (Operand.func 8), args := { toList := [] }, argTypes := { toList := [] } }, guard := none },
              { dst := some 10, op := Op.unOp UnOp.not 4 (Operand.tmp 9), guard := none }, { dst := some 11, op := Op.move (Operand.tmp 10), guard := none },
              { dst := some 12, op := Op.move (Operand.tmp 0), guard := some (some 11, false) },
              { dst := some 13, op := Op.call { callee := Callee.builtin Builtin.len, args := { toList := [Operand.tmp 12] }, argTypes := { toList := [22] } }, guard := some (some 11, false) },
              { dst := some 14, op := Op.binOp BinOp.gtr 3 (Operand.tmp 13) (Operand.const (Value.int IntKind.i64 (Int.ofNat 30))) 3, guard := some (some 11, false) },
              { dst := some 15, op := Op.pick (Operand.tmp 11) (Operand.const (Value.bool true)) (Operand.tmp 14), guard := none }, { dst := some 16, op := Op.move (Operand.tmp 15), guard := none },
              { dst := some 17, op := Op.move (Operand.tmp 1), guard := some (some 16, false) },
              { dst := some 18, op := Op.call { callee := Callee.builtin Builtin.len, args := { toList := [Operand.tmp 17] }, argTypes := { toList := [22] } }, guard := some (some 16, false) },
              { dst := some 19, op := Op.binOp BinOp.gtr 3 (Operand.tmp 18) (Operand.const (Value.int IntKind.i64 (Int.ofNat 30))) 3, guard := some (some 16, false) },
              { dst := some 20, op := Op.pick (Operand.tmp 16) (Operand.const (Value.bool true)) (Operand.tmp 19), guard := none }]).seq
        (IC.cond (Operand.tmp 20)
          ((IC.ops
                [{ dst := some 21, op := Op.call { callee := Callee.value (Operand.func 8), args := { toList := [] }, argTypes := { toList := [] } }, guard := none },
                  { dst := some 4, op := Op.assign (Operand.tmp 21), guard := none }]).seq
            IC.ret)
          IC.skip)).seq
    ((IC.ops
          [{ dst := some 23, op := Op.move (Operand.tmp 0), guard := none },
            { dst := some 24, op := Op.call { callee := Callee.value (Operand.func 9), args := { toList := [Operand.tmp 23] }, argTypes := { toList := [22] } }, guard := none },
            { dst := some 22, op := Op.move (Operand.tmp 24), guard := none }, { dst := some 25, op := Op.extract (Operand.tmp 22) 0, guard := none },
            { dst := some 26, op := Op.extract (Operand.tmp 22) 1, guard := none }, { dst := some 5, op := Op.assign (Operand.tmp 25), guard := none },
            { dst := some 6, op := Op.assign (Operand.tmp 26), guard := none }]).seq
      ((IC.ops
            [{ dst := some 28, op := Op.move (Operand.tmp 1), guard := none },
              { dst := some 29, op := Op.call { callee := Callee.value (Operand.func 9), args := { toList := [Operand.tmp 28] }, argTypes := { toList := [22] } }, guard := none },
              { dst := some 27, op := Op.move (Operand.tmp 29), guard := none }, { dst := some 30, op := Op.extract (Operand.tmp 27) 0, guard := none },
              { dst := some 31, op := Op.extract (Operand.tmp 27) 1, guard := none }, { dst := some 7, op := Op.assign (Operand.tmp 30), guard := none },
              { dst := some 8, op := Op.assign (Operand.tmp 31), guard := none }]).seq
        (((IC.ops
                  [{ dst := some 32, op := Op.move (Operand.tmp 6), guard := none }, { dst := some 33, op := Op.binOp BinOp.neq 26 (Operand.tmp 32) (Operand.const Value.nilIface) 26, guard := none },
                    { dst := some 34, op := Op.move (Operand.tmp 33), guard := none }, { dst := some 35, op := Op.move (Operand.tmp 8), guard := some (some 34, false) },
                    { dst := some 36, op := Op.binOp BinOp.neq 26 (Operand.tmp 35) (Operand.const Value.nilIface) 26, guard := some (some 34, false) },
                    { dst := some 37, op := Op.pick (Operand.tmp 34) (Operand.const (Value.bool true)) (Operand.tmp 36), guard := none }]).seq
              (IC.cond (Operand.tmp 37) ((IC.ops [{ dst := some 4, op := Op.assign (Operand.const (Value.bool true)), guard := none }]).seq IC.ret) IC.skip)).seq
          ((IC.ops
                [{ dst := some 38, op := Op.move (Operand.tmp 5), guard := none }, { dst := some 39, op := Op.move (Operand.tmp 7), guard := none },
                  { dst := some 40, op := Op.call { callee := Callee.value (Operand.func 12), args := { toList := [Operand.tmp 38, Operand.tmp 39] }, argTypes := { toList := [23, 23] } },
                    guard := none },
                  { dst := some 41, op := Op.move (Operand.tmp 0), guard := none }, { dst := some 42, op := Op.move (Operand.tmp 1), guard := none },
                  { dst := some 43, op := Op.call { callee := Callee.value (Operand.func 11), args := { toList := [Operand.tmp 41, Operand.tmp 42] }, argTypes := { toList := [22, 22] } },
                    guard := none },
                  { dst := some 44, op := Op.binOp BinOp.eql 4 (Operand.tmp 40) (Operand.tmp 43) 4, guard := none }, { dst := some 4, op := Op.assign (Operand.tmp 44), guard := none }]).seq
            IC.ret)))))
theorem ic7_eq : Try.f7.body.map comp = some ic7 := by kernel_rfl
theorem ic7_ok : Try.f7.body.map (okC Try.f7.ntmps) = some true := by kernel_rfl
theorem ic7_nm : (Try.f7.name != "runtime.NumGoroutine") = true := by kernel_rfl
@[simp] theorem ic7_n : Try.f7.ntmps = 45 := by kernel_rfl
@[simp] theorem ic7_r : Try.f7.results.toList = [ResultVar.tmp 4] := by kernel_rfl

def ic8 : IC :=
  (IC.ops [{ dst := some 0, op := Op.assign (Operand.const (Value.bool false)), guard := none }]).seq
  ((IC.ops
        [{ dst := some 6, op := Op.build 42 { toList := [(0, Operand.const (Value.int IntKind.i64 (Int.ofNat 6))), (1, Operand.const (Value.int IntKind.i64 (Int.ofNat 5)))] }, guard := none },
          { dst := some 7, op := Op.buildSlice 22 1 { toList := [(0, Operand.tmp 6)] }, guard := none },
          { dst := some 8, op := Op.call { callee := Callee.value (Operand.func 9), args := { toList := [Operand.tmp 7] }, argTypes := { toList := [22] } }, guard := none },
          { dst := some 5, op := Op.move (Operand.tmp 8), guard := none }, { dst := some 9, op := Op.extract (Operand.tmp 5) 0, guard := none },
          { dst := some 10, op := Op.extract (Operand.tmp 5) 1, guard := none }, { dst := some 1, op := Op.assign (Operand.tmp 9), guard := none },
          { dst := some 2, op := Op.assign (Operand.tmp 10), guard := none }]).seq
    ((IC.ops
          [{ dst := some 12, op := Op.move (Operand.tmp 1), guard := none },
            { dst := some 13, op := Op.call { callee := Callee.value (Operand.func 10), args := { toList := [Operand.tmp 12] }, argTypes := { toList := [23] } }, guard := none },
            { dst := some 11, op := Op.move (Operand.tmp 13), guard := none }, { dst := some 14, op := Op.extract (Operand.tmp 11) 0, guard := none },
            { dst := some 15, op := Op.extract (Operand.tmp 11) 1, guard := none }, { dst := some 3, op := Op.assign (Operand.tmp 14), guard := none },
            { dst := some 4, op := Op.assign (Operand.tmp 15), guard := none }]).seq
      ((IC.ops
            [{ dst := some 16, op := Op.move (Operand.tmp 2), guard := none }, { dst := some 17, op := Op.binOp BinOp.eql 26 (Operand.tmp 16) (Operand.const Value.nilIface) 26, guard := none },
              { dst := some 18, op := Op.move (Operand.tmp 17), guard := none }, { dst := some 19, op := Op.move (Operand.tmp 4), guard := some (some 18, true) },
              { dst := some 20, op := Op.binOp BinOp.eql 26 (Operand.tmp 19) (Operand.const Value.nilIface) 26, guard := some (some 18, true) },
              { dst := some 21, op := Op.pick (Operand.tmp 18) (Operand.tmp 20) (Operand.const (Value.bool false)), guard := none }, { dst := some 22, op := Op.move (Operand.tmp 21), guard := none },
              { dst := some 23, op := Op.move (Operand.tmp 1), guard := some (some 22, true) },
              { dst := some 24, op := Op.call { callee := Callee.builtin Builtin.len, args := { toList := [Operand.tmp 23] }, argTypes := { toList := [23] } }, guard := some (some 22, true) },
              { dst := some 25, op := Op.binOp BinOp.eql 3 (Operand.tmp 24) (Operand.const (Value.int IntKind.i64 (Int.ofNat 10))) 3, guard := some (some 22, true) },
              { dst := some 26, op := Op.pick (Operand.tmp 22) (Operand.tmp 25) (Operand.const (Value.bool false)), guard := none }, { dst := some 27, op := Op.move (Operand.tmp 26), guard := none },
              { dst := some 28, op := Op.move (Operand.tmp 3), guard := some (some 27, true) },
              { dst := some 29, op := Op.call { callee := Callee.builtin Builtin.len, args := { toList := [Operand.tmp 28] }, argTypes := { toList := [22] } }, guard := some (some 27, true) },
              { dst := some 30, op := Op.binOp BinOp.eql 3 (Operand.tmp 29) (Operand.const (Value.int IntKind.i64 (Int.ofNat 1))) 3, guard := some (some 27, true) },
              { dst := some 31, op := Op.pick (Operand.tmp 27) (Operand.tmp 30) (Operand.const (Value.bool false)), guard := none }, { dst := some 32, op := Op.move (Operand.tmp 31), guard := none },
              { dst := some 33, op := Op.move (Operand.tmp 3), guard := some (some 32, true) },
              { dst := some 34, op := Op.indexAddr 22 (Operand.tmp 33) (Operand.const (Value.int IntKind.i64 (Int.ofNat 0))), guard := some (some 32, true) },
              { dst := some 35, op := Op.fieldAddr 42 (Operand.tmp 34) 0, guard := some (some 32, true) }, { dst := some 36, op := Op.load 40 (Operand.tmp 35), guard := some (some 32, true) },
              { dst := some 37, op := Op.binOp BinOp.eql 40 (Operand.tmp 36) (Operand.const (Value.int IntKind.i64 (Int.ofNat 6))) 40, guard := some (some 32, true) },
              { dst := some 38, op := Op.pick (Operand.tmp 32) (Operand.tmp 37) (Operand.const (Value.bool false)), guard := none }, { dst := some 39, op := Op.move (Operand.tmp 38), guard := none },
              { dst := some 40,
                op :=
                  Op.buildSlice 23 9
                    {
                      toList :=
                        [(0, Operand.const (Value.int IntKind.u8 (Int.ofNat 49))), (1, Operand.const (Value.int IntKind.u8 (Int.ofNat 50))), (2, Operand.const (Value.int IntKind.u8 (Int.ofNat 51))),
                          (3, Operand.const (Value.int IntKind.u8 (Int.ofNat 52))), (4, Operand.const (Value.int IntKind.u8 (Int.ofNat 53))), (5, Operand.const (Value.int IntKind.u8 (Int.ofNat 54))),
                          (6, Operand.const (Value.int IntKind.u8 (Int.ofNat 55))), (7, Operand.const (Value.int IntKind.u8 (Int.ofNat 56))),
                          (8, Operand.const (Value.int IntKind.u8 (Int.ofNat 57)))] },
                guard := some (some 39, true) },
              { dst := some 41, op := Op.convert 23 23 (Operand.tmp 40), guard := some (some 39, true) },
              { dst := some 42, op := Op.call { callee := Callee.value (Operand.func 13), args := { toList := [Operand.tmp 41] }, argTypes := { toList := [23] } }, guard := some (some 39, true) },
              { dst := some 43, op := Op.binOp BinOp.eql 3 (Operand.tmp 42) (Operand.const (Value.int IntKind.i64 (Int.ofNat 10673))) 3, guard := some (some 39, true) },
              { dst := some 44, op := Op.pick (Operand.tmp 39) (Operand.tmp 43) (Operand.const (Value.bool false)), guard := none },
              { dst := some 0, op := Op.assign (Operand.tmp 44), guard := none }]).seq
        IC.ret)))
theorem ic8_eq : Try.f8.body.map comp = some ic8 := by kernel_rfl
theorem ic8_ok : Try.f8.body.map (okC Try.f8.ntmps) = some true := by kernel_rfl
theorem ic8_nm : (Try.f8.name != "runtime.NumGoroutine") = true := by kernel_rfl
@[simp] theorem ic8_n : Try.f8.ntmps = 45 := by kernel_rfl
@[simp] theorem ic8_r : Try.f8.results.toList = [ResultVar.tmp 0] := by kernel_rfl

def ic9 : IC :=
  (IC.ops [{ dst := some 2, op := Op.assign (Operand.const (Value.slice none 0 0)), guard := none }, { dst := some 3, op := Op.assign (Operand.const Value.nilIface), guard := none }]).seq
  (((IC.ops
            [{ dst := some 9, op := Op.move (Operand.tmp 0), guard := none },
              { dst := some 10, op := Op.call { callee := Callee.value (Operand.func 14), args := { toList := [Operand.tmp 9] }, argTypes := { toList := [22] } }, guard := none },
              { dst := some 11, op := Op.unOp UnOp.not 4 (Operand.tmp 10), guard := none }]).seq
        (IC.cond (Operand.tmp 11)
          ((IC.ops
                [{ dst := some 12,
                    op :=
                      Op.call
                        { callee := Callee.value (Operand.func 15),
                          args :=
                            {
                              toList :=
                                [Operand.const
                                    (Value.string
                                      {
                                        data :=
                                          {
                                            toList :=
                                              [119, 114, 105,
                                                116, 101] } })] },
                          argTypes := { toList := [9] } },
                    guard := none },
                  { dst := some 2, op := Op.assign (Operand.const (Value.slice none 0 0)), guard := none }, { dst := some 3, op := Op.assign (Operand.tmp 12), guard := none }]).seq
            IC.ret)
          IC.skip)).seq
    ((IC.ops
          [{ dst := some 13, op := Op.move (Operand.tmp 0), guard := none },
            { dst := some 14, op := Op.call { callee := Callee.builtin Builtin.len, args := { toList := [Operand.tmp 13] }, argTypes := { toList := [22] } }, guard := none },
            { dst := some 15, op := Op.convert 3 5 (Operand.tmp 14), guard := none },
            { dst := some 16, op := Op.buildSlice 23 2 { toList := [(0, Operand.const (Value.int IntKind.u8 (Int.ofNat 76))), (1, Operand.tmp 15)] }, guard := none },
            { dst := some 4, op := Op.assign (Operand.tmp 16), guard := none }]).seq
      (((IC.ops
                [{ dst := some 17, op := Op.move (Operand.tmp 0), guard := none },
                  { dst := some 18, op := Op.call { callee := Callee.builtin Builtin.len, args := { toList := [Operand.tmp 17] }, argTypes := { toList := [22] } }, guard := none },
                  { dst := some 19, op := Op.move (Operand.const (Value.int IntKind.i64 (Int.ofNat 0))), guard := none }]).seq
            (IC.block 0
              ((IC.ops [{ dst := some 20, op := Op.binOp BinOp.lss 3 (Operand.tmp 19) (Operand.tmp 18) 3, guard := none }]).seq
                  ((IC.cond (Operand.tmp 20) IC.skip (IC.exit 0)).seq
                    ((IC.block 1
                          ((IC.ops
                                [{ dst := some 21, op := Op.indexAddr 22 (Operand.tmp 17) (Operand.tmp 19), guard := none }, { dst := some 22, op := Op.load 42 (Operand.tmp 21), guard := none },
                                  { dst := some 6, op := Op.alloc 42, guard := none }, { dst := none, op := Op.store 42 (Operand.tmp 6) (Operand.tmp 22), guard := none }]).seq
                            ((IC.ops
                                  [{ dst := some 23, op := Op.move (Operand.tmp 4), guard := none }, { dst := some 24, op := Op.fieldAddr 42 (Operand.tmp 6) 0, guard := none },
                                    { dst := some 25, op := Op.load 40 (Operand.tmp 24), guard := none }, { dst := some 26, op := Op.convert 40 5 (Operand.tmp 25), guard := none },
                                    { dst := some 27, op := Op.buildSlice 23 1 { toList := [(0, Operand.tmp 26)] }, guard := none },
                                    { dst := some 28,
                                      op := Op.call { callee := Callee.builtin Builtin.append, args := { toList := [Operand.tmp 23, Operand.tmp 27] }, argTypes := { toList := [23, 23] } },
                                      guard := none },
                                    { dst := some 4, op := Op.assign (Operand.tmp 28), guard := none }]).seq
                              ((IC.ops [{ dst := some 7, op := Op.assign (Operand.const (Value.int IntKind.i64 (Int.ofNat 4))), guard := none }]).seq
                                (IC.block 2
                                  (((IC.ops
                                              [{ dst := some 29, op := Op.move (Operand.tmp 7), guard := none },
                                                { dst := some 30, op := Op.binOp BinOp.geq 3 (Operand.tmp 29) (Operand.const (Value.int IntKind.i64 (Int.ofNat 0))) 3, guard := none }]).seq
                                          (IC.cond (Operand.tmp 30) IC.skip (IC.exit 2))).seq
                                      ((IC.block 3
                                            (IC.ops
                                              [{ dst := some 33, op := Op.move (Operand.tmp 4), guard := none }, { dst := some 34, op := Op.fieldAddr 42 (Operand.tmp 6) 1, guard := none },
                                                { dst := some 35, op := Op.load 3 (Operand.tmp 34), guard := none }, { dst := some 36, op := Op.move (Operand.tmp 7), guard := none },
                                                { dst := some 37, op := Op.binOp BinOp.mul 3 (Operand.const (Value.int IntKind.i64 (Int.ofNat 8))) (Operand.tmp 36) 3, guard := none },
                                                { dst := some 38, op := Op.binOp BinOp.shr 3 (Operand.tmp 35) (Operand.tmp 37) 3, guard := none },
                                                { dst := some 39, op := Op.convert 3 5 (Operand.tmp 38), guard := none },
                                                { dst := some 40, op := Op.buildSlice 23 1 { toList := [(0, Operand.tmp 39)] }, guard := none },
                                                { dst := some 41,
                                                  op := Op.call { callee := Callee.builtin Builtin.append, args := { toList := [Operand.tmp 33, Operand.tmp 40] }, argTypes := { toList := [23, 23] } },
                                                  guard := none },
                                                { dst := some 4, op := Op.assign (Operand.tmp 41), guard := none }])).seq
                                        (IC.ops
                                          [{ dst := some 31, op := Op.move (Operand.tmp 7), guard := none },
                                            { dst := some 32, op := Op.binOp BinOp.sub 3 (Operand.tmp 31) (Operand.const (Value.int IntKind.i64 (Int.ofNat 1))) 3, guard := none },
                                            { dst := some 7, op := Op.assign (Operand.tmp 32), guard := none }]))).loop))))).seq
                      (IC.ops
                        [{ dst := some 42, op := Op.binOp BinOp.add 3 (Operand.tmp 19) (Operand.const (Value.int IntKind.i64 (Int.ofNat 1))) 3, guard := none },
                          { dst := some 19, op := Op.move (Operand.tmp 42), guard := none }])))).loop)).seq
        ((IC.ops
              [{ dst := some 43, op := Op.move (Operand.tmp 4), guard := none },
                { dst := some 44, op := Op.call { callee := Callee.value (Operand.func 13), args := { toList := [Operand.tmp 43] }, argTypes := { toList := [23] } }, guard := none },
                { dst := some 8, op := Op.assign (Operand.tmp 44), guard := none }]).seq
          ((IC.ops
                [{ dst := some 45, op := Op.move (Operand.tmp 4), guard := none }, { dst := some 46, op := Op.move (Operand.tmp 8), guard := none },
                  { dst := some 47, op := Op.binOp BinOp.shr 3 (Operand.tmp 46) (Operand.const (Value.int IntKind.u64 (Int.ofNat 8))) 38, guard := none },
                  { dst := some 48, op := Op.convert 3 5 (Operand.tmp 47), guard := none }, { dst := some 49, op := Op.move (Operand.tmp 8), guard := none },
                  { dst := some 50, op := Op.convert 3 5 (Operand.tmp 49), guard := none },
                  { dst := some 51, op := Op.buildSlice 23 2 { toList := [(0, Operand.tmp 48), (1, Operand.tmp 50)] }, guard := none },
                  { dst := some 52, op := Op.call { callee := Callee.builtin Builtin.append, args := { toList := [Operand.tmp 45, Operand.tmp 51] }, argTypes := { toList := [23, 23] } },
                    guard := none },
                  { dst := some 2, op := Op.assign (Operand.tmp 52), guard := none }, { dst := some 3, op := Op.assign (Operand.const Value.nilIface), guard := none }]).seq
            IC.ret)))))
theorem ic9_eq : Try.f9.body.map comp = some ic9 := by kernel_rfl
theorem ic9_ok : Try.f9.body.map (okC Try.f9.ntmps) = some true := by kernel_rfl
theorem ic9_nm : (Try.f9.name != "runtime.NumGoroutine") = true := by kernel_rfl
@[simp] theorem ic9_n : Try.f9.ntmps = 53 := by kernel_rfl
@[simp] theorem ic9_r : Try.f9.results.toList = [ResultVar.tmp 2, ResultVar.tmp 3] := by kernel_rfl

def ic10 : IC :=
  (IC.ops [{ dst := some 2, op := Op.assign (Operand.const (Value.slice none 0 0)), guard := none }, { dst := some 3, op := Op.assign (Operand.const Value.nilIface), guard := none }]).seq
  ((IC.block 0
        ((IC.ops
              [{ dst := some 7, op := Op.move (Operand.tmp 0), guard := none },
                { dst := some 8, op := Op.call { callee := Callee.builtin Builtin.len, args := { toList := [Operand.tmp 7] }, argTypes := { toList := [23] } }, guard := none },
                { dst := some 9, op := Op.binOp BinOp.lss 3 (Operand.tmp 8) (Operand.const (Value.int IntKind.i64 (Int.ofNat 4))) 3, guard := none },
                { dst := some 10, op := Op.move (Operand.tmp 9), guard := none }, { dst := some 11, op := Op.move (Operand.tmp 0), guard := some (some 10, false) },
                { dst := some 12, op := Op.call { callee := Callee.builtin Builtin.len, args := { toList := [Operand.tmp 11] }, argTypes := { toList := [23] } }, guard := some (some 10, false) },
                { dst := some 13, op := Op.move (Operand.tmp 0), guard := some (some 10, false) },
                { dst := some 14, op := Op.indexAddr 23 (Operand.tmp 13) (Operand.const (Value.int IntKind.i64 (Int.ofNat 1))), guard := some (some 10, false) },
                { dst := some 15, op := Op.load 5 (Operand.tmp 14), guard := some (some 10, false) }, { dst := some 16, op := Op.convert 5 3 (Operand.tmp 15), guard := some (some 10, false) },
                { dst := some 17, op := Op.binOp BinOp.mul 3 (Operand.const (Value.int IntKind.i64 (Int.ofNat 6))) (Operand.tmp 16) 3, guard := some (some 10, false) },
                { dst := some 18, op := Op.binOp BinOp.add 3 (Operand.const (Value.int IntKind.i64 (Int.ofNat 2))) (Operand.tmp 17) 3, guard := some (some 10, false) },
                { dst := some 19, op := Op.binOp BinOp.add 3 (Operand.tmp 18) (Operand.const (Value.int IntKind.i64 (Int.ofNat 2))) 3, guard := some (some 10, false) },
                { dst := some 20, op := Op.binOp BinOp.neq 3 (Operand.tmp 12) (Operand.tmp 19) 3, guard := some (some 10, false) },
                { dst := some 21, op := Op.pick (Operand.tmp 10) (Operand.const (Value.bool true)) (Operand.tmp 20), guard := none },
                { dst := some 6, op := Op.assign (Operand.tmp 21), guard := none }]).seq
          (IC.cond (Operand.tmp 6)
            ((IC.ops
                  [{ dst := some 22,
                      op :=
                        Op.call
                          { callee := Callee.value (Operand.func 15),
                            args :=
                              {
                                toList :=
                                  [Operand.const
                                      (Value.string
                                        {
                                          data :=
                                            {
                                              toList :=
                                                [108, 101, 110,
                                                  103, 116, 104] } })] },
                            argTypes := { toList := [9] } },
                      guard := none },
                    { dst := some 2, op := Op.assign (Operand.const (Value.slice none 0 0)), guard := none }, { dst := some 3, op := Op.assign (Operand.tmp 22), guard := none }]).seq
              IC.ret)
            ((IC.ops
                  [{ dst := some 24, op := Op.move (Operand.tmp 0), guard := none },
                    { dst := some 25, op := Op.call { callee := Callee.value (Operand.func 13), args := { toList := [Operand.tmp 24] }, argTypes := { toList := [23] } }, guard := none },
                    { dst := some 26, op := Op.binOp BinOp.neq 3 (Operand.tmp 25) (Operand.const (Value.int IntKind.i64 (Int.ofNat 0))) 3, guard := none },
                    { dst := some 23, op := Op.assign (Operand.tmp 26), guard := none }]).seq
              (IC.cond (Operand.tmp 23)
                ((IC.ops
                      [{ dst := some 27,
                          op :=
                            Op.call
                              { callee := Callee.value (Operand.func 15),
                                args :=
                                  {
                                    toList :=
                                      [Operand.const
                                          (Value.string
                                            { data := { toList := [115, 117, 109] } })] },
                                argTypes := { toList := [9] } },
                          guard := none },
                        { dst := some 2, op := Op.assign (Operand.const (Value.slice none 0 0)), guard := none }, { dst := some 3, op := Op.assign (Operand.tmp 27), guard := none }]).seq
                  IC.ret)
                ((IC.ops
                      [{ dst := some 29, op := Op.move (Operand.tmp 0), guard := none },
                        { dst := some 30, op := Op.indexAddr 23 (Operand.tmp 29) (Operand.const (Value.int IntKind.i64 (Int.ofNat 0))), guard := none },
                        { dst := some 31, op := Op.load 5 (Operand.tmp 30), guard := none },
                        { dst := some 32, op := Op.binOp BinOp.neq 5 (Operand.tmp 31) (Operand.const (Value.int IntKind.u8 (Int.ofNat 76))) 5, guard := none },
                        { dst := some 28, op := Op.assign (Operand.tmp 32), guard := none }]).seq
                  (IC.cond (Operand.tmp 28)
                    ((IC.ops
                          [{ dst := some 33,
                              op :=
                                Op.call
                                  { callee := Callee.value (Operand.func 15),
                                    args :=
                                      {
                                        toList :=
                                          [Operand.const
                                              (Value.string
                                                {
                                                  data :=
                                                    {
                                                      toList :=
                                                        [109, 97, 114,
                                                          107] } })] },
                                    argTypes := { toList := [9] } },
                              guard := none },
                            { dst := some 2, op := Op.assign (Operand.const (Value.slice none 0 0)), guard := none }, { dst := some 3, op := Op.assign (Operand.tmp 33), guard := none }]).seq
                      IC.ret)
                    IC.skip))))))).seq
    ((IC.ops [{ dst := some 4, op := Op.alloc 22, guard := none }]).seq
      (((IC.ops
                [{ dst := some 34, op := Op.move (Operand.tmp 0), guard := none }, { dst := some 35, op := Op.move (Operand.tmp 0), guard := none },
                  { dst := some 36, op := Op.call { callee := Callee.builtin Builtin.len, args := { toList := [Operand.tmp 35] }, argTypes := { toList := [23] } }, guard := none },
                  { dst := some 37, op := Op.binOp BinOp.sub 3 (Operand.tmp 36) (Operand.const (Value.int IntKind.i64 (Int.ofNat 2))) 3, guard := none },
                  { dst := some 38, op := Op.slice 23 (Operand.tmp 34) (some (Operand.const (Value.int IntKind.i64 (Int.ofNat 2)))) (some (Operand.tmp 37)) none, guard := none },
                  { dst := some 39,
                    op :=
                      Op.call
                        { callee := Callee.value (Operand.func 16), args := { toList := [Operand.tmp 38, Operand.const (Value.int IntKind.i64 (Int.ofNat 6))] }, argTypes := { toList := [23, 3] } },
                    guard := none }]).seq
            (IC.block 1
              (IC.range (Operand.tmp 39) { toList := [40] } (IC.ops [{ dst := some 5, op := Op.assign (Operand.tmp 40), guard := none }])
                (IC.block 2
                  (IC.opsD
                    [{ dst := some 41, op := Op.load 22 (Operand.tmp 4), guard := none }, { dst := some 42, op := Op.move (Operand.tmp 5), guard := none },
                      { dst := some 43, op := Op.call { callee := Callee.value (Operand.func 17), args := { toList := [Operand.tmp 42] }, argTypes := { toList := [23] } }, guard := none, bef := [1] },
                      { dst := some 44, op := Op.buildSlice 22 1 { toList := [(0, Operand.tmp 43)] }, guard := none, bef := [2, 1] },
                      { dst := some 45, op := Op.call { callee := Callee.builtin Builtin.append, args := { toList := [Operand.tmp 41, Operand.tmp 44] }, argTypes := { toList := [22, 22] } },
                        guard := none, bef := [0, 3, 2, 1] },
                      { dst := none, op := Op.store 22 (Operand.tmp 4) (Operand.tmp 45), guard := none, bef := [4, 0, 3, 2, 1] }]))))).seq
        (((IC.ops
                  [{ dst := some 46, op := Op.load 22 (Operand.tmp 4), guard := none },
                    { dst := some 47, op := Op.call { callee := Callee.value (Operand.func 14), args := { toList := [Operand.tmp 46] }, argTypes := { toList := [22] } }, guard := none },
                    { dst := some 48, op := Op.unOp UnOp.not 4 (Operand.tmp 47), guard := none }]).seq
              (IC.cond (Operand.tmp 48)
                ((IC.ops
                      [{ dst := some 49,
                          op :=
                            Op.call
                              { callee := Callee.value (Operand.func 15),
                                args :=
                                  {
                                    toList :=
                                      [Operand.const
                                          (Value.string
                                            {
                                              data :=
                                                {
                                                  toList :=
                                                    [102, 97, 117,
                                                      108, 116] } })] },
                                argTypes := { toList := [9] } },
                          guard := none },
                        { dst := some 2, op := Op.assign (Operand.const (Value.slice none 0 0)), guard := none }, { dst := some 3, op := Op.assign (Operand.tmp 49), guard := none }]).seq
                  IC.ret)
                IC.skip)).seq
          ((IC.ops
                [{ dst := some 50, op := Op.load 22 (Operand.tmp 4), guard := none }, { dst := some 2, op := Op.assign (Operand.tmp 50), guard := none },
                  { dst := some 3, op := Op.assign (Operand.const Value.nilIface), guard := none }]).seq
            IC.ret)))))
theorem ic10_eq : Try.f10.body.map comp = some ic10 := by kernel_rfl
theorem ic10_ok : Try.f10.body.map (okC Try.f10.ntmps) = some true := by kernel_rfl
theorem ic10_nm : (Try.f10.name != "runtime.NumGoroutine") = true := by kernel_rfl
@[simp] theorem ic10_n : Try.f10.ntmps = 51 := by kernel_rfl
@[simp] theorem ic10_r : Try.f10.results.toList = [ResultVar.tmp 2, ResultVar.tmp 3] := by kernel_rfl

def ic11 : IC :=
  (IC.ops [{ dst := some 4, op := Op.assign (Operand.const (Value.bool false)), guard := none }]).seq
  (((IC.ops
            [{ dst := some 6, op := Op.move (Operand.tmp 0), guard := none },
              { dst := some 7, op := Op.call { callee := Callee.builtin Builtin.len, args := { toList := [Operand.tmp 6] }, argTypes := { toList := [22] } }, guard := none },
              { dst := some 8, op := Op.move (Operand.tmp 1), guard := none },
              { dst := some 9, op := Op.call { callee := Callee.builtin Builtin.len, args := { toList := [Operand.tmp 8] }, argTypes := { toList := [22] } }, guard := none },
              { dst := some 10, op := Op.binOp BinOp.neq 3 (Operand.tmp 7) (Operand.tmp 9) 3, guard := none }]).seq
        (IC.cond (Operand.tmp 10) ((IC.ops [{ dst := some 4, op := Op.assign (Operand.const (Value.bool false)), guard := none }]).seq IC.ret) IC.skip)).seq
    (((IC.ops
              [{ dst := some 11, op := Op.move (Operand.tmp 0), guard := none },
                { dst := some 12, op := Op.call { callee := Callee.builtin Builtin.len, args := { toList := [Operand.tmp 11] }, argTypes := { toList := [22] } }, guard := none },
                { dst := some 13, op := Op.move (Operand.const (Value.int IntKind.i64 (Int.ofNat 0))), guard := none }]).seq
          (IC.block 0
            ((IC.ops [{ dst := some 14, op := Op.binOp BinOp.lss 3 (Operand.tmp 13) (Operand.tmp 12) 3, guard := none }]).seq
                ((IC.cond (Operand.tmp 14) IC.skip (IC.exit 0)).seq
                  ((IC.block 1
                        ((IC.ops [{ dst := some 15, op := Op.move (Operand.tmp 13), guard := none }, { dst := some 5, op := Op.assign (Operand.tmp 15), guard := none }]).seq
                          ((IC.opsD
                                [{ dst := some 16, op := Op.move (Operand.tmp 0), guard := none }, { dst := some 17, op := Op.move (Operand.tmp 5), guard := none },
                                  { dst := some 18, op := Op.indexAddr 22 (Operand.tmp 16) (Operand.tmp 17), guard := none, bef := [0, 1] },
                                  { dst := some 19, op := Op.load 42 (Operand.tmp 18), guard := none, bef := [2, 0, 1] }, { dst := some 20, op := Op.move (Operand.tmp 1), guard := none },
                                  { dst := some 21, op := Op.move (Operand.tmp 5), guard := none },
                                  { dst := some 22, op := Op.indexAddr 22 (Operand.tmp 20) (Operand.tmp 21), guard := none, bef := [4, 5] },
                                  { dst := some 23, op := Op.load 42 (Operand.tmp 22), guard := none, bef := [6, 4, 5] },
                                  { dst := some 24, op := Op.binOp BinOp.neq 42 (Operand.tmp 19) (Operand.tmp 23) 42, guard := none, bef := [3, 2, 0, 1, 7, 6, 4, 5] }]).seq
                            (IC.cond (Operand.tmp 24) ((IC.ops [{ dst := some 4, op := Op.assign (Operand.const (Value.bool false)), guard := none }]).seq IC.ret) IC.skip)))).seq
                    (IC.ops
                      [{ dst := some 25, op := Op.binOp BinOp.add 3 (Operand.tmp 13) (Operand.const (Value.int IntKind.i64 (Int.ofNat 1))) 3, guard := none },
                        { dst := some 13, op := Op.move (Operand.tmp 25), guard := none }])))).loop)).seq
      ((IC.ops [{ dst := some 4, op := Op.assign (Operand.const (Value.bool true)), guard := none }]).seq IC.ret)))
theorem ic11_eq : Try.f11.body.map comp = some ic11 := by kernel_rfl
theorem ic11_ok : Try.f11.body.map (okC Try.f11.ntmps) = some true := by kernel_rfl
theorem ic11_nm : (Try.f11.name != "runtime.NumGoroutine") = true := by kernel_rfl
@[simp] theorem ic11_n : Try.f11.ntmps = 26 := by kernel_rfl
@[simp] theorem ic11_r : Try.f11.results.toList = [ResultVar.tmp 4] := by kernel_rfl

def ic12 : IC :=
  (IC.ops [{ dst := some 4, op := Op.assign (Operand.const (Value.bool false)), guard := none }]).seq
  (((IC.ops
            [{ dst := some 6, op := Op.move (Operand.tmp 0), guard := none },
              { dst := some 7, op := Op.call { callee := Callee.builtin Builtin.len, args := { toList := [Operand.tmp 6] }, argTypes := { toList := [23] } }, guard := none },
              { dst := some 8, op := Op.move (Operand.tmp 1), guard := none },
              { dst := some 9, op := Op.call { callee := Callee.builtin Builtin.len, args := { toList := [Operand.tmp 8] }, argTypes := { toList := [23] } }, guard := none },
              { dst := some 10, op := Op.binOp BinOp.neq 3 (Operand.tmp 7) (Operand.tmp 9) 3, guard := none }]).seq
        (IC.cond (Operand.tmp 10) ((IC.ops [{ dst := some 4, op := Op.assign (Operand.const (Value.bool false)), guard := none }]).seq IC.ret) IC.skip)).seq
    (((IC.ops
              [{ dst := some 11, op := Op.move (Operand.tmp 0), guard := none },
                { dst := some 12, op := Op.call { callee := Callee.builtin Builtin.len, args := { toList := [Operand.tmp 11] }, argTypes := { toList := [23] } }, guard := none },
                { dst := some 13, op := Op.move (Operand.const (Value.int IntKind.i64 (Int.ofNat 0))), guard := none }]).seq
          (IC.block 0
            ((IC.ops [{ dst := some 14, op := Op.binOp BinOp.lss 3 (Operand.tmp 13) (Operand.tmp 12) 3, guard := none }]).seq
                ((IC.cond (Operand.tmp 14) IC.skip (IC.exit 0)).seq
                  ((IC.block 1
                        ((IC.ops [{ dst := some 15, op := Op.move (Operand.tmp 13), guard := none }, { dst := some 5, op := Op.assign (Operand.tmp 15), guard := none }]).seq
                          ((IC.opsD
                                [{ dst := some 16, op := Op.move (Operand.tmp 0), guard := none }, { dst := some 17, op := Op.move (Operand.tmp 5), guard := none },
                                  { dst := some 18, op := Op.indexAddr 23 (Operand.tmp 16) (Operand.tmp 17), guard := none, bef := [0, 1] },
                                  { dst := some 19, op := Op.load 5 (Operand.tmp 18), guard := none, bef := [2, 0, 1] }, { dst := some 20, op := Op.move (Operand.tmp 1), guard := none },
                                  { dst := some 21, op := Op.move (Operand.tmp 5), guard := none },
                                  { dst := some 22, op := Op.indexAddr 23 (Operand.tmp 20) (Operand.tmp 21), guard := none, bef := [4, 5] },
                                  { dst := some 23, op := Op.load 5 (Operand.tmp 22), guard := none, bef := [6, 4, 5] },
                                  { dst := some 24, op := Op.binOp BinOp.neq 5 (Operand.tmp 19) (Operand.tmp 23) 5, guard := none, bef := [3, 2, 0, 1, 7, 6, 4, 5] }]).seq
                            (IC.cond (Operand.tmp 24) ((IC.ops [{ dst := some 4, op := Op.assign (Operand.const (Value.bool false)), guard := none }]).seq IC.ret) IC.skip)))).seq
                    (IC.ops
                      [{ dst := some 25, op := Op.binOp BinOp.add 3 (Operand.tmp 13) (Operand.const (Value.int IntKind.i64 (Int.ofNat 1))) 3, guard := none },
                        { dst := some 13, op := Op.move (Operand.tmp 25), guard := none }])))).loop)).seq
      ((IC.ops [{ dst := some 4, op := Op.assign (Operand.const (Value.bool true)), guard := none }]).seq IC.ret)))
theorem ic12_eq : Try.f12.body.map comp = some ic12 := by kernel_rfl
theorem ic12_ok : Try.f12.body.map (okC Try.f12.ntmps) = some true := by kernel_rfl
theorem ic12_nm : (Try.f12.name != "runtime.NumGoroutine") = true := by kernel_rfl
@[simp] theorem ic12_n : Try.f12.ntmps = 26 := by kernel_rfl
@[simp] theorem ic12_r : Try.f12.results.toList = [ResultVar.tmp 4] := by kernel_rfl

def ic13 : IC :=
  (IC.ops [{ dst := some 2, op := Op.assign (Operand.const (Value.int IntKind.i64 (Int.ofNat 0))), guard := none }]).seq
  ((IC.ops [{ dst := some 3, op := Op.assign (Operand.const (Value.int IntKind.u16 (Int.ofNat 65535))), guard := none }]).seq
    (((IC.ops
              [{ dst := some 8, op := Op.move (Operand.tmp 0), guard := none },
                { dst := some 9, op := Op.call { callee := Callee.builtin Builtin.len, args := { toList := [Operand.tmp 8] }, argTypes := { toList := [23] } }, guard := none },
                { dst := some 10, op := Op.move (Operand.const (Value.int IntKind.i64 (Int.ofNat 0))), guard := none }]).seq
          (IC.block 0
            ((IC.ops [{ dst := some 11, op := Op.binOp BinOp.lss 3 (Operand.tmp 10) (Operand.tmp 9) 3, guard := none }]).seq
                ((IC.cond (Operand.tmp 11) IC.skip (IC.exit 0)).seq
                  ((IC.block 1
                        ((IC.ops
                              [{ dst := some 12, op := Op.indexAddr 23 (Operand.tmp 8) (Operand.tmp 10), guard := none }, { dst := some 13, op := Op.load 5 (Operand.tmp 12), guard := none },
                                { dst := some 5, op := Op.assign (Operand.tmp 13), guard := none }]).seq
                          ((IC.ops
                                  [{ dst := some 14, op := Op.move (Operand.tmp 3), guard := none }, { dst := some 15, op := Op.move (Operand.tmp 5), guard := none },
                                    { dst := some 16, op := Op.convert 5 34 (Operand.tmp 15), guard := none },
                                    { dst := some 17, op := Op.binOp BinOp.shl 34 (Operand.tmp 16) (Operand.const (Value.int IntKind.u64 (Int.ofNat 8))) 38, guard := none },
                                    { dst := some 18, op := Op.binOp BinOp.xor 34 (Operand.tmp 14) (Operand.tmp 17) 34, guard := none },
                                    { dst := some 3, op := Op.assign (Operand.tmp 18), guard := none }]).seq
                              ((IC.ops [{ dst := some 6, op := Op.assign (Operand.const (Value.int IntKind.i64 (Int.ofNat 0))), guard := none }]).seq
                                ((IC.label 0).seq
                                  ((IC.ops
                                        [{ dst := some 19, op := Op.move (Operand.tmp 3), guard := none },
                                          { dst := some 20, op := Op.binOp BinOp.shr 34 (Operand.tmp 19) (Operand.const (Value.int IntKind.u64 (Int.ofNat 15))) 38, guard := none },
                                          { dst := some 7, op := Op.assign (Operand.tmp 20), guard := none }]).seq
                                    ((IC.ops
                                          [{ dst := some 21, op := Op.move (Operand.tmp 3), guard := none },
                                            { dst := some 22, op := Op.binOp BinOp.shl 34 (Operand.tmp 21) (Operand.const (Value.int IntKind.u64 (Int.ofNat 1))) 38, guard := none },
                                            { dst := some 3, op := Op.assign (Operand.tmp 22), guard := none }]).seq
                                      (((IC.ops
                                                [{ dst := some 23, op := Op.move (Operand.tmp 7), guard := none },
                                                  { dst := some 24, op := Op.binOp BinOp.eql 34 (Operand.tmp 23) (Operand.const (Value.int IntKind.u16 (Int.ofNat 1))) 34, guard := none }]).seq
                                            (IC.cond (Operand.tmp 24)
                                              (IC.ops
                                                [{ dst := some 25, op := Op.move (Operand.tmp 3), guard := none },
                                                  { dst := some 26, op := Op.binOp BinOp.xor 34 (Operand.tmp 25) (Operand.const (Value.int IntKind.u16 (Int.ofNat 4129))) 34, guard := none },
                                                  { dst := some 3, op := Op.assign (Operand.tmp 26), guard := none }])
                                              IC.skip)).seq
                                        ((IC.ops
                                              [{ dst := some 27, op := Op.move (Operand.tmp 6), guard := none },
                                                { dst := some 28, op := Op.binOp BinOp.add 3 (Operand.tmp 27) (Operand.const (Value.int IntKind.i64 (Int.ofNat 1))) 3, guard := none },
                                                { dst := some 6, op := Op.assign (Operand.tmp 28), guard := none }]).seq
                                          ((IC.ops
                                                [{ dst := some 29, op := Op.move (Operand.tmp 6), guard := none },
                                                  { dst := some 30, op := Op.binOp BinOp.lss 3 (Operand.tmp 29) (Operand.const (Value.int IntKind.i64 (Int.ofNat 8))) 3, guard := none }]).seq
                                            (IC.cond (Operand.tmp 30) (IC.goto 0) IC.skip))))))))).scope)).seq
                    (IC.ops
                      [{ dst := some 31, op := Op.binOp BinOp.add 3 (Operand.tmp 10) (Operand.const (Value.int IntKind.i64 (Int.ofNat 1))) 3, guard := none },
                        { dst := some 10, op := Op.move (Operand.tmp 31), guard := none }])))).loop)).seq
      ((IC.ops
            [{ dst := some 32, op := Op.move (Operand.tmp 3), guard := none }, { dst := some 33, op := Op.convert 34 3 (Operand.tmp 32), guard := none },
              { dst := some 2, op := Op.assign (Operand.tmp 33), guard := none }]).seq
        IC.ret)))
theorem ic13_eq : Try.f13.body.map comp = some ic13 := by kernel_rfl
theorem ic13_ok : Try.f13.body.map (okC Try.f13.ntmps) = some true := by kernel_rfl
theorem ic13_nm : (Try.f13.name != "runtime.NumGoroutine") = true := by kernel_rfl
@[simp] theorem ic13_n : Try.f13.ntmps = 34 := by kernel_rfl
@[simp] theorem ic13_r : Try.f13.results.toList = [ResultVar.tmp 2] := by kernel_rfl

def ic14 : IC :=
  (IC.ops [{ dst := some 2, op := Op.assign (Operand.const (Value.bool false)), guard := none }]).seq
  ((IC.ops [{ dst := some 3, op := Op.assign (Operand.const (Value.int IntKind.i64 (Int.ofNat 0))), guard := none }]).seq
    (((IC.ops
              [{ dst := some 6, op := Op.move (Operand.tmp 0), guard := none },
                { dst := some 7, op := Op.call { callee := Callee.builtin Builtin.len, args := { toList := [Operand.tmp 6] }, argTypes := { toList := [22] } }, guard := none },
                { dst := some 8, op := Op.move (Operand.const (Value.int IntKind.i64 (Int.ofNat 0))), guard := none }]).seq
          (IC.block 0
            ((IC.ops [{ dst := some 9, op := Op.binOp BinOp.lss 3 (Operand.tmp 8) (Operand.tmp 7) 3, guard := none }]).seq
                ((IC.cond (Operand.tmp 9) IC.skip (IC.exit 0)).seq
                  ((IC.block 1
                        ((IC.ops
                              [{ dst := some 10, op := Op.indexAddr 22 (Operand.tmp 6) (Operand.tmp 8), guard := none }, { dst := some 11, op := Op.load 42 (Operand.tmp 10), guard := none },
                                { dst := some 5, op := Op.alloc 42, guard := none }, { dst := none, op := Op.store 42 (Operand.tmp 5) (Operand.tmp 11), guard := none }]).seq
                          (((IC.ops
                                    [{ dst := some 12, op := Op.fieldAddr 42 (Operand.tmp 5) 0, guard := none }, { dst := some 13, op := Op.load 40 (Operand.tmp 12), guard := none },
                                      { dst := some 14, op := Op.move (Operand.tmp 3), guard := none },
                                      { dst := some 15, op := Op.binOp BinOp.leq 40 (Operand.tmp 13) (Operand.tmp 14) 40, guard := none },
                                      { dst := some 16, op := Op.move (Operand.tmp 15), guard := none }, { dst := some 17, op := Op.fieldAddr 42 (Operand.tmp 5) 0, guard := some (some 16, false) },
                                      { dst := some 18, op := Op.load 40 (Operand.tmp 17), guard := some (some 16, false) },
                                      { dst := some 19, op := Op.binOp BinOp.gtr 40 (Operand.tmp 18) (Operand.const (Value.int IntKind.i64 (Int.ofNat 11))) 40, guard := some (some 16, false) },
                                      { dst := some 20, op := Op.pick (Operand.tmp 16) (Operand.const (Value.bool true)) (Operand.tmp 19), guard := none },
                                      { dst := some 21, op := Op.move (Operand.tmp 20), guard := none }, { dst := some 22, op := Op.fieldAddr 42 (Operand.tmp 5) 1, guard := some (some 21, false) },
                                      { dst := some 23, op := Op.load 3 (Operand.tmp 22), guard := some (some 21, false) },
                                      { dst := some 24, op := Op.binOp BinOp.lss 3 (Operand.tmp 23) (Operand.const (Value.int IntKind.i64 (Int.ofNat 0))) 3, guard := some (some 21, false) },
                                      { dst := some 25, op := Op.pick (Operand.tmp 21) (Operand.const (Value.bool true)) (Operand.tmp 24), guard := none },
                                      { dst := some 26, op := Op.move (Operand.tmp 25), guard := none }, { dst := some 27, op := Op.fieldAddr 42 (Operand.tmp 5) 1, guard := some (some 26, false) },
                                      { dst := some 28, op := Op.load 3 (Operand.tmp 27), guard := some (some 26, false) },
                                      { dst := some 29, op := Op.binOp BinOp.gtr 3 (Operand.tmp 28) (Operand.const (Value.int IntKind.i64 (Int.ofNat 1099511627775))) 3,
                                        guard := some (some 26, false) },
                                      { dst := some 30, op := Op.pick (Operand.tmp 26) (Operand.const (Value.bool true)) (Operand.tmp 29), guard := none }]).seq
                                (IC.cond (Operand.tmp 30) ((IC.ops [{ dst := some 2, op := Op.assign (Operand.const (Value.bool false)), guard := none }]).seq IC.ret) IC.skip)).seq
                            (IC.ops
                              [{ dst := some 31, op := Op.fieldAddr 42 (Operand.tmp 5) 0, guard := none }, { dst := some 32, op := Op.load 40 (Operand.tmp 31), guard := none },
                                { dst := some 3, op := Op.assign (Operand.tmp 32), guard := none }])))).seq
                    (IC.ops
                      [{ dst := some 33, op := Op.binOp BinOp.add 3 (Operand.tmp 8) (Operand.const (Value.int IntKind.i64 (Int.ofNat 1))) 3, guard := none },
                        { dst := some 8, op := Op.move (Operand.tmp 33), guard := none }])))).loop)).seq
      ((IC.ops [{ dst := some 2, op := Op.assign (Operand.const (Value.bool true)), guard := none }]).seq IC.ret)))
theorem ic14_eq : Try.f14.body.map comp = some ic14 := by kernel_rfl
theorem ic14_ok : Try.f14.body.map (okC Try.f14.ntmps) = some true := by kernel_rfl
theorem ic14_nm : (Try.f14.name != "runtime.NumGoroutine") = true := by kernel_rfl
@[simp] theorem ic14_n : Try.f14.ntmps = 34 := by kernel_rfl
@[simp] theorem ic14_r : Try.f14.results.toList = [ResultVar.tmp 2] := by kernel_rfl

def ic15 : IC :=
  (IC.ops [{ dst := some 2, op := Op.assign (Operand.const Value.nilIface), guard := none }]).seq
  ((IC.ops
        [{ dst := some 3, op := Op.move (Operand.tmp 0), guard := none },
          { dst := some 4,
            op :=
              Op.call
                { callee := Callee.value (Operand.func 19), args := { toList := [Operand.const (Value.int IntKind.i64 (Int.ofNat 2)), Operand.const (Value.int IntKind.i64 (Int.ofNat 0))] },
                  argTypes := { toList := [40, 3] } },
            guard := none },
          { dst := some 5, op := Op.call { callee := Callee.value (Operand.func 18), args := { toList := [Operand.tmp 3, Operand.tmp 4] }, argTypes := { toList := [9, 26] } }, guard := none },
          { dst := some 2, op := Op.assign (Operand.tmp 5), guard := none }]).seq
    IC.ret)
theorem ic15_eq : Try.f15.body.map comp = some ic15 := by kernel_rfl
theorem ic15_ok : Try.f15.body.map (okC Try.f15.ntmps) = some true := by kernel_rfl
theorem ic15_nm : (Try.f15.name != "runtime.NumGoroutine") = true := by kernel_rfl
@[simp] theorem ic15_n : Try.f15.ntmps = 6 := by kernel_rfl
@[simp] theorem ic15_r : Try.f15.results.toList = [ResultVar.tmp 2] := by kernel_rfl

def ic16 : IC :=
  (IC.ops
      [{ dst := some 2, op := Op.box 23 (Operand.tmp 0), guard := none }, { dst := some 3, op := Op.box 3 (Operand.tmp 1), guard := none },
        { dst := some 4, op := Op.assign (Operand.const Value.nilFunc), guard := none }]).seq
  (((IC.ops
            [{ dst := some 5, op := Op.load 3 (Operand.tmp 3), guard := none },
              { dst := some 6, op := Op.binOp BinOp.lss 3 (Operand.tmp 5) (Operand.const (Value.int IntKind.i64 (Int.ofNat 1))) 3, guard := none }]).seq
        (IC.cond (Operand.tmp 6)
          (IC.ops
            [{ dst := some 7,
                op :=
                  Op.makeInterface 9
                    (Operand.const
                      (Value.string
                        {
                          data :=
                            {
                              toList :=
                                [99, 97, 110, 110,
                                  111, 116, 32, 98,
                                  101, 32, 108, 101,
                                  115, 115, 32, 116,
                                  104, 97, 110, 32,
                                  49] } })),
                guard := none },
              { dst := none, op := Op.panic (Operand.tmp 7), guard := none }])
          IC.skip)).seq
    ((IC.ops
          [{ dst := some 8, op := Op.makeFunc (Fn.func 20) { toList := [] } { toList := [Operand.tmp 2, Operand.tmp 3] }, guard := none },
            { dst := some 4, op := Op.assign (Operand.tmp 8), guard := none }]).seq
      IC.ret))
theorem ic16_eq : Try.f16.body.map comp = some ic16 := by kernel_rfl
theorem ic16_ok : Try.f16.body.map (okC Try.f16.ntmps) = some true := by kernel_rfl
theorem ic16_nm : (Try.f16.name != "runtime.NumGoroutine") = true := by kernel_rfl
@[simp] theorem ic16_n : Try.f16.ntmps = 9 := by kernel_rfl
@[simp] theorem ic16_r : Try.f16.results.toList = [ResultVar.tmp 4] := by kernel_rfl

def ic17 : IC :=
  (IC.ops [{ dst := some 2, op := Op.alloc 42, guard := none }]).seq
  ((IC.ops
        [{ dst := some 6, op := Op.move (Operand.tmp 0), guard := none }, { dst := some 7, op := Op.indexAddr 23 (Operand.tmp 6) (Operand.const (Value.int IntKind.i64 (Int.ofNat 0))), guard := none },
          { dst := some 8, op := Op.load 5 (Operand.tmp 7), guard := none }, { dst := some 9, op := Op.convert 5 40 (Operand.tmp 8), guard := none },
          { dst := some 10, op := Op.build 42 { toList := [(0, Operand.tmp 9)] }, guard := none }, { dst := some 3, op := Op.alloc 42, guard := none },
          { dst := none, op := Op.store 42 (Operand.tmp 3) (Operand.tmp 10), guard := none }]).seq
    (((IC.ops
              [{ dst := some 11, op := Op.move (Operand.tmp 0), guard := none },
                { dst := some 12, op := Op.slice 23 (Operand.tmp 11) (some (Operand.const (Value.int IntKind.i64 (Int.ofNat 1)))) none none, guard := none },
                { dst := some 13, op := Op.call { callee := Callee.builtin Builtin.len, args := { toList := [Operand.tmp 12] }, argTypes := { toList := [23] } }, guard := none },
                { dst := some 14, op := Op.move (Operand.const (Value.int IntKind.i64 (Int.ofNat 0))), guard := none }]).seq
          (IC.block 0
            ((IC.ops [{ dst := some 15, op := Op.binOp BinOp.lss 3 (Operand.tmp 14) (Operand.tmp 13) 3, guard := none }]).seq
                ((IC.cond (Operand.tmp 15) IC.skip (IC.exit 0)).seq
                  ((IC.block 1
                        ((IC.ops
                              [{ dst := some 16, op := Op.indexAddr 23 (Operand.tmp 12) (Operand.tmp 14), guard := none }, { dst := some 17, op := Op.load 5 (Operand.tmp 16), guard := none },
                                { dst := some 5, op := Op.assign (Operand.tmp 17), guard := none }]).seq
                          (IC.ops
                            [{ dst := some 18, op := Op.fieldAddr 42 (Operand.tmp 3) 1, guard := none }, { dst := some 19, op := Op.load 3 (Operand.tmp 18), guard := none },
                              { dst := some 20, op := Op.binOp BinOp.shl 3 (Operand.tmp 19) (Operand.const (Value.int IntKind.u64 (Int.ofNat 8))) 38, guard := none },
                              { dst := some 21, op := Op.move (Operand.tmp 5), guard := none }, { dst := some 22, op := Op.convert 5 3 (Operand.tmp 21), guard := none },
                              { dst := some 23, op := Op.binOp BinOp.or 3 (Operand.tmp 20) (Operand.tmp 22) 3, guard := none },
                              { dst := some 24, op := Op.fieldAddr 42 (Operand.tmp 3) 1, guard := none }, { dst := none, op := Op.store 3 (Operand.tmp 24) (Operand.tmp 23), guard := none }]))).seq
                    (IC.ops
                      [{ dst := some 25, op := Op.binOp BinOp.add 3 (Operand.tmp 14) (Operand.const (Value.int IntKind.i64 (Int.ofNat 1))) 3, guard := none },
                        { dst := some 14, op := Op.move (Operand.tmp 25), guard := none }])))).loop)).seq
      ((IC.ops [{ dst := some 26, op := Op.load 42 (Operand.tmp 3), guard := none }, { dst := none, op := Op.store 42 (Operand.tmp 2) (Operand.tmp 26), guard := none }]).seq IC.ret)))
theorem ic17_eq : Try.f17.body.map comp = some ic17 := by kernel_rfl
theorem ic17_ok : Try.f17.body.map (okC Try.f17.ntmps) = some true := by kernel_rfl
theorem ic17_nm : (Try.f17.name != "runtime.NumGoroutine") = true := by kernel_rfl
@[simp] theorem ic17_n : Try.f17.ntmps = 27 := by kernel_rfl
@[simp] theorem ic17_r : Try.f17.results.toList = [ResultVar.cell 2 42] := by kernel_rfl

def ic18 : IC :=
  (IC.ops [{ dst := some 4, op := Op.assign (Operand.const Value.nilIface), guard := none }]).seq
  (((IC.ops [{ dst := some 5, op := Op.move (Operand.tmp 1), guard := none }, { dst := some 6, op := Op.binOp BinOp.eql 26 (Operand.tmp 5) (Operand.const Value.nilIface) 26, guard := none }]).seq
        (IC.cond (Operand.tmp 6) ((IC.ops [{ dst := some 4, op := Op.assign (Operand.const Value.nilIface), guard := none }]).seq IC.ret) IC.skip)).seq
    ((IC.ops
          [{ dst := some 7, op := Op.move (Operand.tmp 0), guard := none }, { dst := some 8, op := Op.move (Operand.tmp 1), guard := none },
            { dst := some 9, op := Op.build 53 { toList := [(0, Operand.tmp 7), (1, Operand.tmp 8)] }, guard := none }, { dst := some 10, op := Op.makeInterface 53 (Operand.tmp 9), guard := none },
            { dst := some 4, op := Op.assign (Operand.tmp 10), guard := none }]).seq
      IC.ret))
theorem ic18_eq : Try.f18.body.map comp = some ic18 := by kernel_rfl
theorem ic18_ok : Try.f18.body.map (okC Try.f18.ntmps) = some true := by kernel_rfl
theorem ic18_nm : (Try.f18.name != "runtime.NumGoroutine") = true := by kernel_rfl
@[simp] theorem ic18_n : Try.f18.ntmps = 11 := by kernel_rfl
@[simp] theorem ic18_r : Try.f18.results.toList = [ResultVar.tmp 4] := by kernel_rfl

def ic19 : IC :=
  (IC.ops [{ dst := some 4, op := Op.assign (Operand.const Value.nilIface), guard := none }]).seq
  (((IC.ops
            [{ dst := some 5, op := Op.move (Operand.tmp 0), guard := none },
              { dst := some 6, op := Op.call { callee := Callee.value (Operand.func 21), args := { toList := [Operand.tmp 5] }, argTypes := { toList := [40] } }, guard := none },
              { dst := some 7, op := Op.unOp UnOp.not 4 (Operand.tmp 6), guard := none }]).seq
        (IC.cond (Operand.tmp 7) ((IC.ops [{ dst := some 4, op := Op.assign (Operand.const Value.nilIface), guard := none }]).seq IC.ret) IC.skip)).seq
    ((IC.ops
          [{ dst := some 8, op := Op.move (Operand.tmp 0), guard := none }, { dst := some 9, op := Op.move (Operand.tmp 1), guard := none },
            { dst := some 10,
              op :=
                Op.call
                  { callee := Callee.builtin Builtin.min, args := { toList := [Operand.tmp 9, Operand.const (Value.int IntKind.i64 (Int.ofNat 1099511627775))] }, argTypes := { toList := [3, 3] } },
              guard := none },
            { dst := some 11,
              op := Op.call { callee := Callee.builtin Builtin.max, args := { toList := [Operand.const (Value.int IntKind.i64 (Int.ofNat 0)), Operand.tmp 10] }, argTypes := { toList := [3, 3] } },
              guard := none },
            { dst := some 12, op := Op.build 42 { toList := [(0, Operand.tmp 8), (1, Operand.tmp 11)] }, guard := none },
            { dst := some 13, op := Op.build 56 { toList := [(0, Operand.tmp 12)] }, guard := none }, { dst := some 14, op := Op.makeInterface 56 (Operand.tmp 13), guard := none },
            { dst := some 4, op := Op.assign (Operand.tmp 14), guard := none }]).seq
      IC.ret))
theorem ic19_eq : Try.f19.body.map comp = some ic19 := by kernel_rfl
theorem ic19_ok : Try.f19.body.map (okC Try.f19.ntmps) = some true := by kernel_rfl
theorem ic19_nm : (Try.f19.name != "runtime.NumGoroutine") = true := by kernel_rfl
@[simp] theorem ic19_n : Try.f19.ntmps = 15 := by kernel_rfl
@[simp] theorem ic19_r : Try.f19.results.toList = [ResultVar.tmp 4] := by kernel_rfl

def ic20 : IC :=
  (IC.ops [{ dst := some 4, op := Op.assign (Operand.const (Value.int IntKind.i64 (Int.ofNat 0))), guard := none }]).seq
  (IC.block 0
    (((IC.ops
                [{ dst := some 6, op := Op.move (Operand.tmp 4), guard := none }, { dst := some 7, op := Op.load 23 (Operand.tmp 1), guard := none },
                  { dst := some 8, op := Op.call { callee := Callee.builtin Builtin.len, args := { toList := [Operand.tmp 7] }, argTypes := { toList := [23] } }, guard := none },
                  { dst := some 9, op := Op.binOp BinOp.lss 3 (Operand.tmp 6) (Operand.tmp 8) 3, guard := none }]).seq
            (IC.cond (Operand.tmp 9) IC.skip (IC.exit 0))).seq
        ((IC.block 1
              ((IC.opsD
                    [{ dst := some 13, op := Op.load 3 (Operand.tmp 2), guard := none }, { dst := some 14, op := Op.load 23 (Operand.tmp 1), guard := none },
                      { dst := some 15, op := Op.move (Operand.tmp 4), guard := none },
                      { dst := some 16, op := Op.slice 23 (Operand.tmp 14) (some (Operand.tmp 15)) none none, guard := none, bef := [1, 2] },
                      { dst := some 17, op := Op.call { callee := Callee.builtin Builtin.len, args := { toList := [Operand.tmp 16] }, argTypes := { toList := [23] } }, guard := none,
                        bef := [3, 1, 2] },
                      { dst := some 18, op := Op.call { callee := Callee.builtin Builtin.min, args := { toList := [Operand.tmp 13, Operand.tmp 17] }, argTypes := { toList := [3, 3] } }, guard := none,
                        bef := [0, 4, 3, 1, 2] },
                      { dst := some 5, op := Op.assign (Operand.tmp 18), guard := none, bef := [5, 0, 4, 3, 1, 2] }]).seq
                ((IC.ops
                      [{ dst := some 19, op := Op.move (Operand.tmp 0), guard := none }, { dst := some 20, op := Op.load 23 (Operand.tmp 1), guard := none },
                        { dst := some 21, op := Op.move (Operand.tmp 4), guard := none }, { dst := some 22, op := Op.move (Operand.tmp 4), guard := none },
                        { dst := some 23, op := Op.move (Operand.tmp 5), guard := none }, { dst := some 24, op := Op.binOp BinOp.add 3 (Operand.tmp 22) (Operand.tmp 23) 3, guard := none },
                        { dst := some 25, op := Op.move (Operand.tmp 4), guard := none }, { dst := some 26, op := Op.move (Operand.tmp 5), guard := none },
                        { dst := some 27, op := Op.binOp BinOp.add 3 (Operand.tmp 25) (Operand.tmp 26) 3, guard := none },
                        { dst := some 28, op := Op.slice 23 (Operand.tmp 20) (some (Operand.tmp 21)) (some (Operand.tmp 24)) (some (Operand.tmp 27)), guard := none },
                        { dst := some 29, op := Op.call { callee := Callee.value (Operand.tmp 19), args := { toList := [Operand.tmp 28] }, argTypes := { toList := [23] } }, guard := none },
                        { dst := some 30, op := Op.unOp UnOp.not 4 (Operand.tmp 29), guard := none }]).seq
                  (IC.cond (Operand.tmp 30) IC.ret IC.skip)))).seq
          (IC.ops
            [{ dst := some 10, op := Op.move (Operand.tmp 4), guard := none }, { dst := some 11, op := Op.load 3 (Operand.tmp 2), guard := none },
              { dst := some 12, op := Op.binOp BinOp.add 3 (Operand.tmp 10) (Operand.tmp 11) 3, guard := none }, { dst := some 4, op := Op.assign (Operand.tmp 12), guard := none }]))).loop)
theorem ic20_eq : Try.f20.body.map comp = some ic20 := by kernel_rfl
theorem ic20_ok : Try.f20.body.map (okC Try.f20.ntmps) = some true := by kernel_rfl
theorem ic20_nm : (Try.f20.name != "runtime.NumGoroutine") = true := by kernel_rfl
@[simp] theorem ic20_n : Try.f20.ntmps = 31 := by kernel_rfl
@[simp] theorem ic20_r : Try.f20.results.toList = [] := by kernel_rfl

def ic21 : IC :=
  (IC.ops [{ dst := some 2, op := Op.assign (Operand.const (Value.bool false)), guard := none }]).seq
  ((IC.ops
        [{ dst := some 3, op := Op.move (Operand.tmp 0), guard := none },
          { dst := some 4, op := Op.binOp BinOp.geq 40 (Operand.tmp 3) (Operand.const (Value.int IntKind.i64 (Int.ofNat 1))) 40, guard := none },
          { dst := some 5, op := Op.move (Operand.tmp 4), guard := none }, { dst := some 6, op := Op.move (Operand.tmp 0), guard := some (some 5, true) },
          { dst := some 7, op := Op.binOp BinOp.leq 40 (Operand.tmp 6) (Operand.const (Value.int IntKind.i64 (Int.ofNat 11))) 40, guard := some (some 5, true) },
          { dst := some 8, op := Op.pick (Operand.tmp 5) (Operand.tmp 7) (Operand.const (Value.bool false)), guard := none }, { dst := some 2, op := Op.assign (Operand.tmp 8), guard := none }]).seq
    IC.ret)
theorem ic21_eq : Try.f21.body.map comp = some ic21 := by kernel_rfl
theorem ic21_ok : Try.f21.body.map (okC Try.f21.ntmps) = some true := by kernel_rfl
theorem ic21_nm : (Try.f21.name != "runtime.NumGoroutine") = true := by kernel_rfl
@[simp] theorem ic21_n : Try.f21.ntmps = 9 := by kernel_rfl
@[simp] theorem ic21_r : Try.f21.results.toList = [ResultVar.tmp 2] := by kernel_rfl

-- f37: no body
-- f38: no body
-- f39: no body

end Go.Proofs.Ytfhpojedoijghaa
