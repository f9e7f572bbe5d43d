/- Contracts of functions of the seat's program, and what follows of them: I1. Conditions are in each statement. -/
import Derived.Test.YtmjhpniegjiocaaRows
import Derived.Test.YtmjhpniegjiocaaV3
set_option linter.unusedSimpArgs false
set_option linter.unusedVariables false
namespace Go.Proofs.Ytmjhpniegjiocaa
open Go Go.Proofs Go.Vm

def ic3 : IC :=
  (IC.ops
      [{ dst := some 3, op := Op.box 26 (Operand.tmp 0), guard := none }, { dst := some 4, op := Op.box 28 (Operand.tmp 1), guard := none },
        { dst := some 5, op := Op.box 30 (Operand.tmp 2), guard := none }, { dst := some 6, op := Op.assign (Operand.const (Value.bool false)), guard := none }]).seq
  (((IC.ops
            [{ dst := some 7, op := Op.call { callee := Callee.value (Operand.func 10), args := { toList := [] }, argTypes := { toList := [] } }, guard := none },
              { dst := some 8, op := Op.unOp UnOp.not 4 (Operand.tmp 7), guard := none }, { dst := some 9, op := Op.move (Operand.tmp 8), guard := none },
              { dst := some 10, op := Op.load 26 (Operand.tmp 3), guard := some (some 9, false) },
              { dst := some 11, op := Op.call { callee := Callee.value (Operand.func 11), args := { toList := [Operand.tmp 10] }, argTypes := { toList := [26] } }, guard := some (some 9, false) },
              { dst := some 12, op := Op.unOp UnOp.not 4 (Operand.tmp 11), guard := some (some 9, false) },
              { dst := some 13, op := Op.pick (Operand.tmp 9) (Operand.const (Value.bool true)) (Operand.tmp 12), guard := none }, { dst := some 14, op := Op.move (Operand.tmp 13), guard := none },
              { dst := some 15, op := Op.load 28 (Operand.tmp 4), guard := some (some 14, false) }, { dst := some 16, op := Op.load 30 (Operand.tmp 5), guard := some (some 14, false) },
              { dst := some 17, op := Op.call { callee := Callee.value (Operand.func 12), args := { toList := [Operand.tmp 15, Operand.tmp 16] }, argTypes := { toList := [28, 30] } },
                guard := some (some 14, false) },
              { dst := some 18, op := Op.unOp UnOp.not 4 (Operand.tmp 17), guard := some (some 14, false) },
              { dst := some 19, op := Op.pick (Operand.tmp 14) (Operand.const (Value.bool true)) (Operand.tmp 18), guard := none }]).seq
        (IC.cond (Operand.tmp 19)
          ((IC.ops
                [{ dst := some 20, op := Op.call { callee := Callee.value (Operand.func 10), args := { toList := [] }, argTypes := { toList := [] } }, guard := none },
                  { dst := some 6, op := Op.assign (Operand.tmp 20), guard := none }]).seq
            IC.ret)
          IC.skip)).seq
    ((IC.opsD
          [{ dst := some 21, op := Op.load 26 (Operand.tmp 3), guard := none }, { dst := some 22, op := Op.load 28 (Operand.tmp 4), guard := none },
            { dst := some 23, op := Op.load 30 (Operand.tmp 5), guard := none },
            { dst := some 24,
              op := Op.call { callee := Callee.value (Operand.func 13), args := { toList := [Operand.tmp 21, Operand.tmp 22, Operand.tmp 23] }, argTypes := { toList := [26, 28, 35] } }, guard := none,
              bef := [0, 1, 2] },
            { dst := some 25, op := Op.load 26 (Operand.tmp 3), guard := none }, { dst := some 26, op := Op.load 28 (Operand.tmp 4), guard := none },
            { dst := some 27, op := Op.load 30 (Operand.tmp 5), guard := none },
            { dst := some 28,
              op := Op.call { callee := Callee.value (Operand.func 14), args := { toList := [Operand.tmp 25, Operand.tmp 26, Operand.tmp 27] }, argTypes := { toList := [26, 28, 30] } }, guard := none,
              bef := [4, 5, 6, 3, 0, 1, 2] },
            { dst := some 29, op := Op.binOp BinOp.eql 28 (Operand.tmp 24) (Operand.tmp 28) 28, guard := none, bef := [3, 0, 1, 2, 7, 4, 5, 6] },
            { dst := some 30, op := Op.move (Operand.tmp 29), guard := none, bef := [8, 3, 0, 1, 2, 7, 4, 5, 6] },
            { dst := some 31, op := Op.load 26 (Operand.tmp 3), guard := some (some 30, true), bef := [9, 8, 3, 0, 1, 2, 7, 4, 5, 6] },
            { dst := some 32, op := Op.load 30 (Operand.tmp 5), guard := some (some 30, true), bef := [9, 8, 3, 0, 1, 2, 7, 4, 5, 6] },
            { dst := some 33, op := Op.call { callee := Callee.value (Operand.func 15), args := { toList := [Operand.tmp 31, Operand.tmp 32] }, argTypes := { toList := [26, 35] } },
              guard := some (some 30, true), bef := [10, 9, 8, 3, 0, 1, 2, 7, 4, 5, 6, 11] },
            { dst := some 34, op := Op.load 26 (Operand.tmp 3), guard := some (some 30, true), bef := [9, 8, 3, 0, 1, 2, 7, 4, 5, 6] },
            { dst := some 35, op := Op.load 30 (Operand.tmp 5), guard := some (some 30, true), bef := [9, 8, 3, 0, 1, 2, 7, 4, 5, 6] },
            { dst := some 36, op := Op.call { callee := Callee.value (Operand.func 16), args := { toList := [Operand.tmp 34, Operand.tmp 35] }, argTypes := { toList := [26, 30] } },
              guard := some (some 30, true), bef := [13, 9, 8, 3, 0, 1, 2, 7, 4, 5, 6, 14, 12, 10, 11] },
            { dst := some 37, op := Op.binOp BinOp.eql 3 (Operand.tmp 33) (Operand.tmp 36) 3, guard := some (some 30, true), bef := [12, 10, 9, 8, 3, 0, 1, 2, 7, 4, 5, 6, 11, 15, 13, 14] },
            { dst := some 38, op := Op.pick (Operand.tmp 30) (Operand.tmp 37) (Operand.const (Value.bool false)), guard := none, bef := [9, 8, 3, 0, 1, 2, 7, 4, 5, 6, 16, 12, 10, 11, 15, 13, 14] },
            { dst := some 6, op := Op.assign (Operand.tmp 38), guard := none, bef := [17, 9, 8, 3, 0, 1, 2, 7, 4, 5, 6, 16, 12, 10, 11, 15, 13, 14] }]).seq
      IC.ret))
theorem ic3_eq : Try.f3.body.map comp = some ic3 := by kernel_rfl
theorem ic3_ok : Try.f3.body.map (okC Try.f3.ntmps) = some true := by kernel_rfl
theorem ic3_nm : (Try.f3.name != "runtime.NumGoroutine") = true := by kernel_rfl
@[simp] theorem ic3_n : Try.f3.ntmps = 39 := by kernel_rfl
@[simp] theorem ic3_r : Try.f3.results.toList = [ResultVar.tmp 6] := by kernel_rfl

def ic4 : IC :=
  (IC.ops [{ dst := some 4, op := Op.box 26 (Operand.tmp 0), guard := none }, { dst := some 8, op := Op.assign (Operand.const (Value.bool false)), guard := none }]).seq
  (((IC.ops
            [{ dst := some 15, op := Op.call { callee := Callee.value (Operand.func 10), args := { toList := [] }, argTypes := { toList := [] } }, guard := none },
              { dst := some 16, op := Op.unOp UnOp.not 4 (Operand.tmp 15), guard := none }, { dst := some 17, op := Op.move (Operand.tmp 16), guard := none },
              { dst := some 18, op := Op.load 26 (Operand.tmp 4), guard := some (some 17, false) },
              { dst := some 19, op := Op.call { callee := Callee.value (Operand.func 11), args := { toList := [Operand.tmp 18] }, argTypes := { toList := [26] } }, guard := some (some 17, false) },
              { dst := some 20, op := Op.unOp UnOp.not 4 (Operand.tmp 19), guard := some (some 17, false) },
              { dst := some 21, op := Op.pick (Operand.tmp 17) (Operand.const (Value.bool true)) (Operand.tmp 20), guard := none }, { dst := some 22, op := Op.move (Operand.tmp 21), guard := none },
              { dst := some 23, op := Op.move (Operand.tmp 3), guard := some (some 22, false) },
              { dst := some 24, op := Op.call { callee := Callee.builtin Builtin.len, args := { toList := [Operand.tmp 23] }, argTypes := { toList := [40] } }, guard := some (some 22, false) },
              { dst := some 25, op := Op.binOp BinOp.gtr 3 (Operand.tmp 24) (Operand.const (Value.int IntKind.i64 (Int.ofNat 300))) 3, guard := some (some 22, false) },
              { dst := some 26, op := Op.pick (Operand.tmp 22) (Operand.const (Value.bool true)) (Operand.tmp 25), guard := none }]).seq
        (IC.cond (Operand.tmp 26)
          ((IC.ops
                [{ dst := some 27, op := Op.call { callee := Callee.value (Operand.func 10), args := { toList := [] }, argTypes := { toList := [] } }, guard := none },
                  { dst := some 8, op := Op.assign (Operand.tmp 27), guard := none }]).seq
            IC.ret)
          IC.skip)).seq
    ((IC.opsD
          [{ dst := some 28, op := Op.fieldAddr 26 (Operand.tmp 4) 0, guard := none }, { dst := some 29, op := Op.load 22 (Operand.tmp 28), guard := none, bef := [0] },
            { dst := some 30, op := Op.move (Operand.tmp 1), guard := none }, { dst := some 31, op := Op.convert 5 3 (Operand.tmp 30), guard := none, bef := [2] },
            { dst := some 32, op := Op.fieldAddr 26 (Operand.tmp 4) 0, guard := none }, { dst := some 33, op := Op.load 22 (Operand.tmp 32), guard := none, bef := [4] },
            { dst := some 34, op := Op.call { callee := Callee.builtin Builtin.len, args := { toList := [Operand.tmp 33] }, argTypes := { toList := [22] } }, guard := none, bef := [5, 4] },
            { dst := some 35, op := Op.binOp BinOp.rem 3 (Operand.tmp 31) (Operand.tmp 34) 3, guard := none, bef := [3, 2, 6, 5, 4] },
            { dst := some 36, op := Op.indexAddr 22 (Operand.tmp 29) (Operand.tmp 35), guard := none, bef := [1, 0, 7, 3, 2, 6, 5, 4] },
            { dst := some 37, op := Op.load 3 (Operand.tmp 36), guard := none, bef := [8, 1, 0, 7, 3, 2, 6, 5, 4] },
            { dst := some 9, op := Op.assign (Operand.tmp 37), guard := none, bef := [9, 8, 1, 0, 7, 3, 2, 6, 5, 4] }]).seq
      ((IC.ops
            [{ dst := some 38, op := Op.move (Operand.tmp 9), guard := none }, { dst := some 39, op := Op.move (Operand.tmp 2), guard := none },
              { dst := some 40, op := Op.fieldAddr 26 (Operand.tmp 4) 2, guard := none }, { dst := some 41, op := Op.load 3 (Operand.tmp 40), guard := none },
              { dst := some 42, op := Op.binOp BinOp.add 3 (Operand.tmp 41) (Operand.const (Value.int IntKind.i64 (Int.ofNat 1))) 3, guard := none },
              { dst := some 43, op := Op.binOp BinOp.rem 3 (Operand.tmp 39) (Operand.tmp 42) 3, guard := none },
              { dst := some 44, op := Op.binOp BinOp.sub 3 (Operand.tmp 38) (Operand.tmp 43) 3, guard := none },
              { dst := some 45, op := Op.build 28 { toList := [(0, Operand.tmp 44)] }, guard := none }, { dst := some 10, op := Op.alloc 28, guard := none },
              { dst := none, op := Op.store 28 (Operand.tmp 10) (Operand.tmp 45), guard := none }]).seq
        (((IC.ops
                  [{ dst := some 46, op := Op.move (Operand.tmp 3), guard := none },
                    { dst := some 47, op := Op.call { callee := Callee.builtin Builtin.len, args := { toList := [Operand.tmp 46] }, argTypes := { toList := [40] } }, guard := none },
                    { dst := some 48, op := Op.move (Operand.const (Value.int IntKind.i64 (Int.ofNat 0))), guard := none }]).seq
              (IC.block 0
                ((IC.ops [{ dst := some 49, op := Op.binOp BinOp.lss 3 (Operand.tmp 48) (Operand.tmp 47) 3, guard := none }]).seq
                    ((IC.cond (Operand.tmp 49) IC.skip (IC.exit 0)).seq
                      ((IC.block 1
                            ((IC.ops [{ dst := some 50, op := Op.move (Operand.tmp 48), guard := none }, { dst := some 11, op := Op.assign (Operand.tmp 50), guard := none }]).seq
                              ((IC.ops
                                    [{ dst := some 51, op := Op.move (Operand.tmp 3), guard := none }, { dst := some 52, op := Op.move (Operand.tmp 11), guard := none },
                                      { dst := some 53, op := Op.indexAddr 40 (Operand.tmp 51) (Operand.tmp 52), guard := none }, { dst := some 54, op := Op.load 30 (Operand.tmp 53), guard := none },
                                      { dst := some 12, op := Op.alloc 30, guard := none }, { dst := none, op := Op.store 30 (Operand.tmp 12) (Operand.tmp 54), guard := none }]).seq
                                (((IC.ops
                                          [{ dst := some 55, op := Op.load 28 (Operand.tmp 10), guard := none }, { dst := some 56, op := Op.load 30 (Operand.tmp 12), guard := none },
                                            { dst := some 57,
                                              op := Op.call { callee := Callee.value (Operand.func 12), args := { toList := [Operand.tmp 55, Operand.tmp 56] }, argTypes := { toList := [28, 30] } },
                                              guard := none },
                                            { dst := some 58, op := Op.unOp UnOp.not 4 (Operand.tmp 57), guard := none }]).seq
                                      (IC.cond (Operand.tmp 58) ((IC.ops [{ dst := some 8, op := Op.assign (Operand.const (Value.bool true)), guard := none }]).seq IC.ret) IC.skip)).seq
                                  ((IC.ops
                                        [{ dst := some 59, op := Op.move (Operand.tmp 9), guard := none }, { dst := some 60, op := Op.fieldAddr 30 (Operand.tmp 12) 4, guard := none },
                                          { dst := none, op := Op.store 4 (Operand.tmp 60) (Operand.const (Value.bool true)), guard := none },
                                          { dst := some 61, op := Op.fieldAddr 30 (Operand.tmp 12) 5, guard := none },
                                          { dst := none, op := Op.store 3 (Operand.tmp 61) (Operand.tmp 59), guard := none }]).seq
                                    ((IC.ops
                                          [{ dst := some 62, op := Op.load 26 (Operand.tmp 4), guard := none }, { dst := some 63, op := Op.load 28 (Operand.tmp 10), guard := none },
                                            { dst := some 64, op := Op.load 30 (Operand.tmp 12), guard := none },
                                            { dst := some 65,
                                              op :=
                                                Op.call
                                                  { callee := Callee.value (Operand.func 13), args := { toList := [Operand.tmp 62, Operand.tmp 63, Operand.tmp 64] },
                                                    argTypes := { toList := [26, 28, 35] } },
                                              guard := none },
                                            { dst := some 13, op := Op.alloc 28, guard := none }, { dst := none, op := Op.store 28 (Operand.tmp 13) (Operand.tmp 65), guard := none }]).seq
                                      ((IC.ops
                                            [{ dst := some 66, op := Op.fieldAddr 28 (Operand.tmp 10) 1, guard := none }, { dst := some 67, op := Op.load 3 (Operand.tmp 66), guard := none },
                                              { dst := some 68, op := Op.binOp BinOp.geq 3 (Operand.tmp 67) (Operand.const (Value.int IntKind.i64 (Int.ofNat 0))) 3, guard := none },
                                              { dst := some 69, op := Op.move (Operand.tmp 68), guard := none },
                                              { dst := some 70, op := Op.fieldAddr 30 (Operand.tmp 12) 0, guard := some (some 69, true) },
                                              { dst := some 71, op := Op.load 3 (Operand.tmp 70), guard := some (some 69, true) },
                                              { dst := some 72, op := Op.binOp BinOp.neq 3 (Operand.tmp 71) (Operand.const (Value.int IntKind.i64 (Int.ofNat 3))) 3, guard := some (some 69, true) },
                                              { dst := some 73, op := Op.pick (Operand.tmp 69) (Operand.tmp 72) (Operand.const (Value.bool false)), guard := none },
                                              { dst := some 74, op := Op.move (Operand.tmp 73), guard := none },
                                              { dst := some 75, op := Op.fieldAddr 30 (Operand.tmp 12) 0, guard := some (some 74, true) },
                                              { dst := some 76, op := Op.load 3 (Operand.tmp 75), guard := some (some 74, true) },
                                              { dst := some 77, op := Op.binOp BinOp.neq 3 (Operand.tmp 76) (Operand.const (Value.int IntKind.i64 (Int.ofNat 4))) 3, guard := some (some 74, true) },
                                              { dst := some 78, op := Op.pick (Operand.tmp 74) (Operand.tmp 77) (Operand.const (Value.bool false)), guard := none },
                                              { dst := some 14, op := Op.assign (Operand.tmp 78), guard := none }]).seq
                                        (((IC.ops
                                                  [{ dst := some 79, op := Op.fieldAddr 28 (Operand.tmp 13) 0, guard := none }, { dst := some 80, op := Op.load 3 (Operand.tmp 79), guard := none },
                                                    { dst := some 81, op := Op.move (Operand.tmp 9), guard := none }, { dst := some 82, op := Op.fieldAddr 26 (Operand.tmp 4) 2, guard := none },
                                                    { dst := some 83, op := Op.load 3 (Operand.tmp 82), guard := none },
                                                    { dst := some 84, op := Op.binOp BinOp.sub 3 (Operand.tmp 81) (Operand.tmp 83) 3, guard := none },
                                                    { dst := some 85, op := Op.binOp BinOp.lss 3 (Operand.tmp 80) (Operand.tmp 84) 3, guard := none },
                                                    { dst := some 86, op := Op.move (Operand.tmp 85), guard := none },
                                                    { dst := some 87, op := Op.move (Operand.tmp 14), guard := some (some 86, false) },
                                                    { dst := some 88, op := Op.move (Operand.tmp 87), guard := some (some 86, false) },
                                                    { dst := some 89, op := Op.fieldAddr 28 (Operand.tmp 10) 0, guard := some (some 88, true) },
                                                    { dst := some 90, op := Op.load 3 (Operand.tmp 89), guard := some (some 88, true) },
                                                    { dst := some 91, op := Op.fieldAddr 28 (Operand.tmp 13) 0, guard := some (some 88, true) },
                                                    { dst := some 92, op := Op.load 3 (Operand.tmp 91), guard := some (some 88, true) },
                                                    { dst := some 93, op := Op.binOp BinOp.sub 3 (Operand.tmp 90) (Operand.tmp 92) 3, guard := some (some 88, true) },
                                                    { dst := some 94, op := Op.fieldAddr 26 (Operand.tmp 4) 9, guard := some (some 88, true) },
                                                    { dst := some 95, op := Op.load 3 (Operand.tmp 94), guard := some (some 88, true) },
                                                    { dst := some 96, op := Op.binOp BinOp.gtr 3 (Operand.tmp 93) (Operand.tmp 95) 3, guard := some (some 88, true) },
                                                    { dst := some 97, op := Op.pick (Operand.tmp 88) (Operand.tmp 96) (Operand.const (Value.bool false)), guard := some (some 86, false) },
                                                    { dst := some 98, op := Op.pick (Operand.tmp 86) (Operand.const (Value.bool true)) (Operand.tmp 97), guard := none }]).seq
                                              (IC.cond (Operand.tmp 98) ((IC.ops [{ dst := some 8, op := Op.assign (Operand.const (Value.bool false)), guard := none }]).seq IC.ret) IC.skip)).seq
                                          (IC.ops
                                            [{ dst := some 99, op := Op.load 28 (Operand.tmp 13), guard := none },
                                              { dst := none, op := Op.store 28 (Operand.tmp 10) (Operand.tmp 99), guard := none }]))))))))).seq
                        (IC.ops
                          [{ dst := some 100, op := Op.binOp BinOp.add 3 (Operand.tmp 48) (Operand.const (Value.int IntKind.i64 (Int.ofNat 1))) 3, guard := none },
                            { dst := some 48, op := Op.move (Operand.tmp 100), guard := none }])))).loop)).seq
          ((IC.ops [{ dst := some 8, op := Op.assign (Operand.const (Value.bool true)), guard := none }]).seq IC.ret)))))
theorem ic4_eq : Try.f4.body.map comp = some ic4 := by kernel_rfl
theorem ic4_ok : Try.f4.body.map (okC Try.f4.ntmps) = some true := by kernel_rfl
theorem ic4_nm : (Try.f4.name != "runtime.NumGoroutine") = true := by kernel_rfl
@[simp] theorem ic4_n : Try.f4.ntmps = 101 := by kernel_rfl
@[simp] theorem ic4_r : Try.f4.results.toList = [ResultVar.tmp 8] := by kernel_rfl

def ic5 : IC :=
  (IC.ops [{ dst := some 4, op := Op.box 26 (Operand.tmp 0), guard := none }, { dst := some 8, op := Op.assign (Operand.const (Value.bool false)), guard := none }]).seq
  (((IC.ops
            [{ dst := some 13, op := Op.call { callee := Callee.value (Operand.func 10), args := { toList := [] }, argTypes := { toList := [] } }, guard := none },
              { dst := some 14, op := Op.unOp UnOp.not 4 (Operand.tmp 13), guard := none }, { dst := some 15, op := Op.move (Operand.tmp 14), guard := none },
              { dst := some 16, op := Op.load 26 (Operand.tmp 4), guard := some (some 15, false) },
              { dst := some 17, op := Op.call { callee := Callee.value (Operand.func 11), args := { toList := [Operand.tmp 16] }, argTypes := { toList := [26] } }, guard := some (some 15, false) },
              { dst := some 18, op := Op.unOp UnOp.not 4 (Operand.tmp 17), guard := some (some 15, false) },
              { dst := some 19, op := Op.pick (Operand.tmp 15) (Operand.const (Value.bool true)) (Operand.tmp 18), guard := none }, { dst := some 20, op := Op.move (Operand.tmp 19), guard := none },
              { dst := some 21, op := Op.move (Operand.tmp 3), guard := some (some 20, false) },
              { dst := some 22, op := Op.call { callee := Callee.builtin Builtin.len, args := { toList := [Operand.tmp 21] }, argTypes := { toList := [22] } }, guard := some (some 20, false) },
              { dst := some 23, op := Op.binOp BinOp.gtr 3 (Operand.tmp 22) (Operand.const (Value.int IntKind.i64 (Int.ofNat 300))) 3, guard := some (some 20, false) },
              { dst := some 24, op := Op.pick (Operand.tmp 20) (Operand.const (Value.bool true)) (Operand.tmp 23), guard := none }]).seq
        (IC.cond (Operand.tmp 24)
          ((IC.ops
                [{ dst := some 25, op := Op.call { callee := Callee.value (Operand.func 10), args := { toList := [] }, argTypes := { toList := [] } }, guard := none },
                  { dst := some 8, op := Op.assign (Operand.tmp 25), guard := none }]).seq
            IC.ret)
          IC.skip)).seq
    ((IC.opsD
          [{ dst := some 26, op := Op.fieldAddr 26 (Operand.tmp 4) 0, guard := none }, { dst := some 27, op := Op.load 22 (Operand.tmp 26), guard := none, bef := [0] },
            { dst := some 28, op := Op.move (Operand.tmp 1), guard := none }, { dst := some 29, op := Op.convert 5 3 (Operand.tmp 28), guard := none, bef := [2] },
            { dst := some 30, op := Op.fieldAddr 26 (Operand.tmp 4) 0, guard := none }, { dst := some 31, op := Op.load 22 (Operand.tmp 30), guard := none, bef := [4] },
            { dst := some 32, op := Op.call { callee := Callee.builtin Builtin.len, args := { toList := [Operand.tmp 31] }, argTypes := { toList := [22] } }, guard := none, bef := [5, 4] },
            { dst := some 33, op := Op.binOp BinOp.rem 3 (Operand.tmp 29) (Operand.tmp 32) 3, guard := none, bef := [3, 2, 6, 5, 4] },
            { dst := some 34, op := Op.indexAddr 22 (Operand.tmp 27) (Operand.tmp 33), guard := none, bef := [1, 0, 7, 3, 2, 6, 5, 4] },
            { dst := some 35, op := Op.load 3 (Operand.tmp 34), guard := none, bef := [8, 1, 0, 7, 3, 2, 6, 5, 4] },
            { dst := some 9, op := Op.assign (Operand.tmp 35), guard := none, bef := [9, 8, 1, 0, 7, 3, 2, 6, 5, 4] }]).seq
      ((IC.ops
            [{ dst := some 36, op := Op.move (Operand.tmp 9), guard := none }, { dst := some 37, op := Op.move (Operand.tmp 2), guard := none },
              { dst := some 38, op := Op.fieldAddr 26 (Operand.tmp 4) 3, guard := none }, { dst := some 39, op := Op.load 3 (Operand.tmp 38), guard := none },
              { dst := some 40, op := Op.binOp BinOp.add 3 (Operand.tmp 39) (Operand.const (Value.int IntKind.i64 (Int.ofNat 1))) 3, guard := none },
              { dst := some 41, op := Op.binOp BinOp.rem 3 (Operand.tmp 37) (Operand.tmp 40) 3, guard := none },
              { dst := some 42, op := Op.binOp BinOp.add 3 (Operand.tmp 36) (Operand.tmp 41) 3, guard := none },
              { dst := some 43, op := Op.build 28 { toList := [(0, Operand.tmp 42)] }, guard := none }, { dst := some 10, op := Op.alloc 28, guard := none },
              { dst := none, op := Op.store 28 (Operand.tmp 10) (Operand.tmp 43), guard := none }]).seq
        (((IC.ops
                  [{ dst := some 44, op := Op.move (Operand.tmp 3), guard := none },
                    { dst := some 45, op := Op.call { callee := Callee.builtin Builtin.len, args := { toList := [Operand.tmp 44] }, argTypes := { toList := [22] } }, guard := none },
                    { dst := some 46, op := Op.move (Operand.const (Value.int IntKind.i64 (Int.ofNat 0))), guard := none }]).seq
              (IC.block 0
                ((IC.ops [{ dst := some 47, op := Op.binOp BinOp.lss 3 (Operand.tmp 46) (Operand.tmp 45) 3, guard := none }]).seq
                    ((IC.cond (Operand.tmp 47) IC.skip (IC.exit 0)).seq
                      ((IC.block 1
                            ((IC.ops [{ dst := some 48, op := Op.move (Operand.tmp 46), guard := none }, { dst := some 11, op := Op.assign (Operand.tmp 48), guard := none }]).seq
                              ((IC.ops
                                    [{ dst := some 49, op := Op.move (Operand.tmp 3), guard := none }, { dst := some 50, op := Op.move (Operand.tmp 11), guard := none },
                                      { dst := some 51, op := Op.indexAddr 22 (Operand.tmp 49) (Operand.tmp 50), guard := none }, { dst := some 52, op := Op.load 3 (Operand.tmp 51), guard := none },
                                      { dst := some 53, op := Op.move (Operand.tmp 9), guard := none },
                                      { dst := some 54,
                                        op := Op.build 30 { toList := [(1, Operand.const (Value.bool true)), (2, Operand.tmp 52), (4, Operand.const (Value.bool true)), (5, Operand.tmp 53)] },
                                        guard := none },
                                      { dst := some 12, op := Op.alloc 30, guard := none }, { dst := none, op := Op.store 30 (Operand.tmp 12) (Operand.tmp 54), guard := none }]).seq
                                (((IC.ops
                                          [{ dst := some 55, op := Op.fieldAddr 28 (Operand.tmp 10) 0, guard := none }, { dst := some 56, op := Op.load 3 (Operand.tmp 55), guard := none },
                                            { dst := some 57, op := Op.move (Operand.tmp 9), guard := none },
                                            { dst := some 58, op := Op.binOp BinOp.sub 3 (Operand.tmp 56) (Operand.tmp 57) 3, guard := none },
                                            { dst := some 59, op := Op.fieldAddr 26 (Operand.tmp 4) 3, guard := none }, { dst := some 60, op := Op.load 3 (Operand.tmp 59), guard := none },
                                            { dst := some 61, op := Op.binOp BinOp.leq 3 (Operand.tmp 58) (Operand.tmp 60) 3, guard := none },
                                            { dst := some 62, op := Op.move (Operand.tmp 61), guard := none }, { dst := some 63, op := Op.move (Operand.tmp 9), guard := some (some 62, true) },
                                            { dst := some 64, op := Op.fieldAddr 28 (Operand.tmp 10) 0, guard := some (some 62, true) },
                                            { dst := some 65, op := Op.load 3 (Operand.tmp 64), guard := some (some 62, true) },
                                            { dst := some 66, op := Op.binOp BinOp.sub 3 (Operand.tmp 63) (Operand.tmp 65) 3, guard := some (some 62, true) },
                                            { dst := some 67, op := Op.fieldAddr 26 (Operand.tmp 4) 3, guard := some (some 62, true) },
                                            { dst := some 68, op := Op.load 3 (Operand.tmp 67), guard := some (some 62, true) },
                                            { dst := some 69, op := Op.binOp BinOp.leq 3 (Operand.tmp 66) (Operand.tmp 68) 3, guard := some (some 62, true) },
                                            { dst := some 70, op := Op.pick (Operand.tmp 62) (Operand.tmp 69) (Operand.const (Value.bool false)), guard := none }]).seq
                                      (IC.cond (Operand.tmp 70)
                                        (IC.ops
                                          [{ dst := some 71, op := Op.fieldAddr 30 (Operand.tmp 12) 0, guard := none },
                                            { dst := none, op := Op.store 3 (Operand.tmp 71) (Operand.const (Value.int IntKind.i64 (Int.ofNat 1))), guard := none }])
                                        IC.skip)).seq
                                  (((IC.ops
                                            [{ dst := some 72, op := Op.load 28 (Operand.tmp 10), guard := none }, { dst := some 73, op := Op.load 30 (Operand.tmp 12), guard := none },
                                              { dst := some 74,
                                                op := Op.call { callee := Callee.value (Operand.func 12), args := { toList := [Operand.tmp 72, Operand.tmp 73] }, argTypes := { toList := [28, 30] } },
                                                guard := none },
                                              { dst := some 75, op := Op.unOp UnOp.not 4 (Operand.tmp 74), guard := none }]).seq
                                        (IC.cond (Operand.tmp 75) ((IC.ops [{ dst := some 8, op := Op.assign (Operand.const (Value.bool true)), guard := none }]).seq IC.ret) IC.skip)).seq
                                    ((IC.ops
                                          [{ dst := some 76, op := Op.load 26 (Operand.tmp 4), guard := none }, { dst := some 77, op := Op.load 28 (Operand.tmp 10), guard := none },
                                            { dst := some 78, op := Op.load 30 (Operand.tmp 12), guard := none },
                                            { dst := some 79,
                                              op :=
                                                Op.call
                                                  { callee := Callee.value (Operand.func 13), args := { toList := [Operand.tmp 76, Operand.tmp 77, Operand.tmp 78] },
                                                    argTypes := { toList := [26, 28, 35] } },
                                              guard := none },
                                            { dst := none, op := Op.store 28 (Operand.tmp 10) (Operand.tmp 79), guard := none }]).seq
                                      ((IC.ops
                                            [{ dst := some 80, op := Op.fieldAddr 28 (Operand.tmp 10) 0, guard := none }, { dst := some 81, op := Op.load 3 (Operand.tmp 80), guard := none },
                                              { dst := some 82, op := Op.move (Operand.tmp 9), guard := none },
                                              { dst := some 83, op := Op.binOp BinOp.sub 3 (Operand.tmp 81) (Operand.tmp 82) 3, guard := none },
                                              { dst := some 84, op := Op.fieldAddr 26 (Operand.tmp 4) 2, guard := none }, { dst := some 85, op := Op.load 3 (Operand.tmp 84), guard := none },
                                              { dst := some 86, op := Op.binOp BinOp.gtr 3 (Operand.tmp 83) (Operand.tmp 85) 3, guard := none },
                                              { dst := some 87, op := Op.move (Operand.tmp 86), guard := none }, { dst := some 88, op := Op.move (Operand.tmp 9), guard := some (some 87, false) },
                                              { dst := some 89, op := Op.fieldAddr 28 (Operand.tmp 10) 0, guard := some (some 87, false) },
                                              { dst := some 90, op := Op.load 3 (Operand.tmp 89), guard := some (some 87, false) },
                                              { dst := some 91, op := Op.binOp BinOp.sub 3 (Operand.tmp 88) (Operand.tmp 90) 3, guard := some (some 87, false) },
                                              { dst := some 92, op := Op.fieldAddr 26 (Operand.tmp 4) 2, guard := some (some 87, false) },
                                              { dst := some 93, op := Op.load 3 (Operand.tmp 92), guard := some (some 87, false) },
                                              { dst := some 94, op := Op.binOp BinOp.gtr 3 (Operand.tmp 91) (Operand.tmp 93) 3, guard := some (some 87, false) },
                                              { dst := some 95, op := Op.pick (Operand.tmp 87) (Operand.const (Value.bool true)) (Operand.tmp 94), guard := none }]).seq
                                        (IC.cond (Operand.tmp 95) ((IC.ops [{ dst := some 8, op := Op.assign (Operand.const (Value.bool false)), guard := none }]).seq IC.ret) IC.skip)))))))).seq
                        (IC.ops
                          [{ dst := some 96, op := Op.binOp BinOp.add 3 (Operand.tmp 46) (Operand.const (Value.int IntKind.i64 (Int.ofNat 1))) 3, guard := none },
                            { dst := some 46, op := Op.move (Operand.tmp 96), guard := none }])))).loop)).seq
          ((IC.ops [{ dst := some 8, op := Op.assign (Operand.const (Value.bool true)), guard := none }]).seq IC.ret)))))
theorem ic5_eq : Try.f5.body.map comp = some ic5 := by kernel_rfl
theorem ic5_ok : Try.f5.body.map (okC Try.f5.ntmps) = some true := by kernel_rfl
theorem ic5_nm : (Try.f5.name != "runtime.NumGoroutine") = true := by kernel_rfl
@[simp] theorem ic5_n : Try.f5.ntmps = 97 := by kernel_rfl
@[simp] theorem ic5_r : Try.f5.results.toList = [ResultVar.tmp 8] := by kernel_rfl

def ic6 : IC :=
  (IC.ops
      [{ dst := some 4, op := Op.box 26 (Operand.tmp 0), guard := none }, { dst := some 5, op := Op.box 28 (Operand.tmp 1), guard := none },
        { dst := some 6, op := Op.box 28 (Operand.tmp 2), guard := none }, { dst := some 8, op := Op.assign (Operand.const (Value.bool false)), guard := none }]).seq
  (((IC.ops
            [{ dst := some 13, op := Op.call { callee := Callee.value (Operand.func 10), args := { toList := [] }, argTypes := { toList := [] } }, guard := none },
              { dst := some 14, op := Op.unOp UnOp.not 4 (Operand.tmp 13), guard := none }, { dst := some 15, op := Op.move (Operand.tmp 14), guard := none },
              { dst := some 16, op := Op.load 26 (Operand.tmp 4), guard := some (some 15, false) },
              { dst := some 17, op := Op.call { callee := Callee.value (Operand.func 11), args := { toList := [Operand.tmp 16] }, argTypes := { toList := [26] } }, guard := some (some 15, false) },
              { dst := some 18, op := Op.unOp UnOp.not 4 (Operand.tmp 17), guard := some (some 15, false) },
              { dst := some 19, op := Op.pick (Operand.tmp 15) (Operand.const (Value.bool true)) (Operand.tmp 18), guard := none }, { dst := some 20, op := Op.move (Operand.tmp 19), guard := none },
              { dst := some 21, op := Op.move (Operand.tmp 3), guard := some (some 20, false) },
              { dst := some 22, op := Op.call { callee := Callee.builtin Builtin.len, args := { toList := [Operand.tmp 21] }, argTypes := { toList := [40] } }, guard := some (some 20, false) },
              { dst := some 23, op := Op.binOp BinOp.gtr 3 (Operand.tmp 22) (Operand.const (Value.int IntKind.i64 (Int.ofNat 300))) 3, guard := some (some 20, false) },
              { dst := some 24, op := Op.pick (Operand.tmp 20) (Operand.const (Value.bool true)) (Operand.tmp 23), guard := none }]).seq
        (IC.cond (Operand.tmp 24)
          ((IC.ops
                [{ dst := some 25, op := Op.call { callee := Callee.value (Operand.func 10), args := { toList := [] }, argTypes := { toList := [] } }, guard := none },
                  { dst := some 8, op := Op.assign (Operand.tmp 25), guard := none }]).seq
            IC.ret)
          IC.skip)).seq
    ((IC.ops
          [{ dst := some 26, op := Op.fieldAddr 28 (Operand.tmp 5) 0, guard := none }, { dst := some 27, op := Op.load 3 (Operand.tmp 26), guard := none },
            { dst := some 28, op := Op.fieldAddr 28 (Operand.tmp 6) 0, guard := none }, { dst := some 29, op := Op.load 3 (Operand.tmp 28), guard := none },
            { dst := some 30, op := Op.call { callee := Callee.builtin Builtin.min, args := { toList := [Operand.tmp 27, Operand.tmp 29] }, argTypes := { toList := [3, 3] } }, guard := none },
            { dst := some 31, op := Op.fieldAddr 28 (Operand.tmp 5) 1, guard := none }, { dst := some 32, op := Op.load 3 (Operand.tmp 31), guard := none },
            { dst := some 33, op := Op.fieldAddr 28 (Operand.tmp 6) 1, guard := none }, { dst := some 34, op := Op.load 3 (Operand.tmp 33), guard := none },
            { dst := some 35, op := Op.call { callee := Callee.builtin Builtin.min, args := { toList := [Operand.tmp 32, Operand.tmp 34] }, argTypes := { toList := [3, 3] } }, guard := none },
            { dst := some 36, op := Op.build 28 { toList := [(0, Operand.tmp 30), (1, Operand.tmp 35)] }, guard := none }, { dst := some 9, op := Op.alloc 28, guard := none },
            { dst := none, op := Op.store 28 (Operand.tmp 9) (Operand.tmp 36), guard := none }]).seq
      ((IC.ops
            [{ dst := some 37, op := Op.fieldAddr 28 (Operand.tmp 5) 0, guard := none }, { dst := some 38, op := Op.load 3 (Operand.tmp 37), guard := none },
              { dst := some 39, op := Op.fieldAddr 28 (Operand.tmp 6) 0, guard := none }, { dst := some 40, op := Op.load 3 (Operand.tmp 39), guard := none },
              { dst := some 41, op := Op.call { callee := Callee.builtin Builtin.max, args := { toList := [Operand.tmp 38, Operand.tmp 40] }, argTypes := { toList := [3, 3] } }, guard := none },
              { dst := some 42, op := Op.fieldAddr 28 (Operand.tmp 5) 1, guard := none }, { dst := some 43, op := Op.load 3 (Operand.tmp 42), guard := none },
              { dst := some 44, op := Op.fieldAddr 28 (Operand.tmp 6) 1, guard := none }, { dst := some 45, op := Op.load 3 (Operand.tmp 44), guard := none },
              { dst := some 46, op := Op.call { callee := Callee.builtin Builtin.max, args := { toList := [Operand.tmp 43, Operand.tmp 45] }, argTypes := { toList := [3, 3] } }, guard := none },
              { dst := some 47, op := Op.build 28 { toList := [(0, Operand.tmp 41), (1, Operand.tmp 46)] }, guard := none }, { dst := some 10, op := Op.alloc 28, guard := none },
              { dst := none, op := Op.store 28 (Operand.tmp 10) (Operand.tmp 47), guard := none }]).seq
        (((IC.ops
                  [{ dst := some 48, op := Op.move (Operand.tmp 3), guard := none },
                    { dst := some 49, op := Op.call { callee := Callee.builtin Builtin.len, args := { toList := [Operand.tmp 48] }, argTypes := { toList := [40] } }, guard := none },
                    { dst := some 50, op := Op.move (Operand.const (Value.int IntKind.i64 (Int.ofNat 0))), guard := none }]).seq
              (IC.block 0
                ((IC.ops [{ dst := some 51, op := Op.binOp BinOp.lss 3 (Operand.tmp 50) (Operand.tmp 49) 3, guard := none }]).seq
                    ((IC.cond (Operand.tmp 51) IC.skip (IC.exit 0)).seq
                      ((IC.block 1
                            ((IC.ops [{ dst := some 52, op := Op.move (Operand.tmp 50), guard := none }, { dst := some 11, op := Op.assign (Operand.tmp 52), guard := none }]).seq
                              (((IC.opsD
                                        [{ dst := some 53, op := Op.load 28 (Operand.tmp 9), guard := none }, { dst := some 54, op := Op.move (Operand.tmp 3), guard := none },
                                          { dst := some 55, op := Op.move (Operand.tmp 11), guard := none },
                                          { dst := some 56, op := Op.indexAddr 40 (Operand.tmp 54) (Operand.tmp 55), guard := none, bef := [1, 2] },
                                          { dst := some 57, op := Op.load 30 (Operand.tmp 56), guard := none, bef := [3, 1, 2] },
                                          { dst := some 58,
                                            op := Op.call { callee := Callee.value (Operand.func 12), args := { toList := [Operand.tmp 53, Operand.tmp 57] }, argTypes := { toList := [28, 30] } },
                                            guard := none, bef := [0, 4, 3, 1, 2] },
                                          { dst := some 59, op := Op.unOp UnOp.not 4 (Operand.tmp 58), guard := none, bef := [5, 0, 4, 3, 1, 2] },
                                          { dst := some 60, op := Op.move (Operand.tmp 59), guard := none, bef := [6, 5, 0, 4, 3, 1, 2] },
                                          { dst := some 61, op := Op.load 28 (Operand.tmp 10), guard := some (some 60, false), bef := [7, 6, 5, 0, 4, 3, 1, 2] },
                                          { dst := some 62, op := Op.move (Operand.tmp 3), guard := some (some 60, false), bef := [7, 6, 5, 0, 4, 3, 1, 2] },
                                          { dst := some 63, op := Op.move (Operand.tmp 11), guard := some (some 60, false), bef := [7, 6, 5, 0, 4, 3, 1, 2] },
                                          { dst := some 64, op := Op.indexAddr 40 (Operand.tmp 62) (Operand.tmp 63), guard := some (some 60, false), bef := [9, 7, 6, 5, 0, 4, 3, 1, 2, 10] },
                                          { dst := some 65, op := Op.load 30 (Operand.tmp 64), guard := some (some 60, false), bef := [11, 9, 7, 6, 5, 0, 4, 3, 1, 2, 10] },
                                          { dst := some 66,
                                            op := Op.call { callee := Callee.value (Operand.func 12), args := { toList := [Operand.tmp 61, Operand.tmp 65] }, argTypes := { toList := [28, 30] } },
                                            guard := some (some 60, false), bef := [8, 7, 6, 5, 0, 4, 3, 1, 2, 12, 11, 9, 10] },
                                          { dst := some 67, op := Op.unOp UnOp.not 4 (Operand.tmp 66), guard := some (some 60, false), bef := [13, 8, 7, 6, 5, 0, 4, 3, 1, 2, 12, 11, 9, 10] },
                                          { dst := some 68, op := Op.pick (Operand.tmp 60) (Operand.const (Value.bool true)) (Operand.tmp 67), guard := none,
                                            bef := [7, 6, 5, 0, 4, 3, 1, 2, 14, 13, 8, 12, 11, 9, 10] }]).seq
                                    (IC.cond (Operand.tmp 68) ((IC.ops [{ dst := some 8, op := Op.assign (Operand.const (Value.bool true)), guard := none }]).seq IC.ret) IC.skip)).seq
                                ((IC.ops
                                      [{ dst := some 69, op := Op.move (Operand.tmp 3), guard := none }, { dst := some 70, op := Op.move (Operand.tmp 11), guard := none },
                                        { dst := some 71, op := Op.indexAddr 40 (Operand.tmp 69) (Operand.tmp 70), guard := none },
                                        { dst := some 72, op := Op.load 30 (Operand.tmp 71), guard := none }, { dst := some 12, op := Op.alloc 35, guard := none },
                                        { dst := none, op := Op.store 35 (Operand.tmp 12) (Operand.tmp 72), guard := none }]).seq
                                  ((IC.ops
                                        [{ dst := some 73, op := Op.fieldAddr 35 (Operand.tmp 12) 4, guard := none },
                                          { dst := none, op := Op.store 4 (Operand.tmp 73) (Operand.const (Value.bool false)), guard := none }]).seq
                                    ((IC.opsD
                                          [{ dst := some 74, op := Op.load 26 (Operand.tmp 4), guard := none }, { dst := some 75, op := Op.load 28 (Operand.tmp 9), guard := none },
                                            { dst := some 76, op := Op.load 35 (Operand.tmp 12), guard := none },
                                            { dst := some 77,
                                              op :=
                                                Op.call
                                                  { callee := Callee.value (Operand.func 13), args := { toList := [Operand.tmp 74, Operand.tmp 75, Operand.tmp 76] },
                                                    argTypes := { toList := [26, 28, 35] } },
                                              guard := none, bef := [0, 1, 2] },
                                            { dst := some 78, op := Op.load 26 (Operand.tmp 4), guard := none }, { dst := some 79, op := Op.load 28 (Operand.tmp 10), guard := none },
                                            { dst := some 80, op := Op.load 35 (Operand.tmp 12), guard := none },
                                            { dst := some 81,
                                              op :=
                                                Op.call
                                                  { callee := Callee.value (Operand.func 13), args := { toList := [Operand.tmp 78, Operand.tmp 79, Operand.tmp 80] },
                                                    argTypes := { toList := [26, 28, 35] } },
                                              guard := none, bef := [4, 5, 6, 3, 0, 1, 2] },
                                            { dst := none, op := Op.store 28 (Operand.tmp 9) (Operand.tmp 77), guard := none, bef := [3, 0, 1, 2, 7, 4, 5, 6] },
                                            { dst := none, op := Op.store 28 (Operand.tmp 10) (Operand.tmp 81), guard := none, bef := [7, 4, 5, 6, 3, 0, 1, 2, 8] }]).seq
                                      (((IC.opsD
                                                [{ dst := some 82, op := Op.fieldAddr 28 (Operand.tmp 9) 0, guard := none },
                                                  { dst := some 83, op := Op.load 3 (Operand.tmp 82), guard := none, bef := [0] },
                                                  { dst := some 84, op := Op.fieldAddr 28 (Operand.tmp 10) 0, guard := none },
                                                  { dst := some 85, op := Op.load 3 (Operand.tmp 84), guard := none, bef := [2] },
                                                  { dst := some 86, op := Op.binOp BinOp.gtr 3 (Operand.tmp 83) (Operand.tmp 85) 3, guard := none, bef := [1, 0, 3, 2] },
                                                  { dst := some 87, op := Op.move (Operand.tmp 86), guard := none, bef := [4, 1, 0, 3, 2] },
                                                  { dst := some 88, op := Op.fieldAddr 28 (Operand.tmp 9) 1, guard := some (some 87, false), bef := [5, 4, 1, 0, 3, 2] },
                                                  { dst := some 89, op := Op.load 3 (Operand.tmp 88), guard := some (some 87, false), bef := [6, 5, 4, 1, 0, 3, 2] },
                                                  { dst := some 90, op := Op.fieldAddr 28 (Operand.tmp 10) 1, guard := some (some 87, false), bef := [5, 4, 1, 0, 3, 2] },
                                                  { dst := some 91, op := Op.load 3 (Operand.tmp 90), guard := some (some 87, false), bef := [8, 5, 4, 1, 0, 3, 2] },
                                                  { dst := some 92, op := Op.binOp BinOp.gtr 3 (Operand.tmp 89) (Operand.tmp 91) 3, guard := some (some 87, false),
                                                    bef := [7, 6, 5, 4, 1, 0, 3, 2, 9, 8] },
                                                  { dst := some 93, op := Op.move (Operand.tmp 92), guard := some (some 87, false), bef := [10, 7, 6, 5, 4, 1, 0, 3, 2, 9, 8] },
                                                  { dst := some 94, op := Op.fieldAddr 28 (Operand.tmp 9) 0, guard := some (some 93, true), bef := [11, 10, 7, 6, 5, 4, 1, 0, 3, 2, 9, 8] },
                                                  { dst := some 95, op := Op.load 3 (Operand.tmp 94), guard := some (some 93, true), bef := [12, 11, 10, 7, 6, 5, 4, 1, 0, 3, 2, 9, 8] },
                                                  { dst := some 96, op := Op.fieldAddr 28 (Operand.tmp 10) 0, guard := some (some 93, true), bef := [11, 10, 7, 6, 5, 4, 1, 0, 3, 2, 9, 8] },
                                                  { dst := some 97, op := Op.load 3 (Operand.tmp 96), guard := some (some 93, true), bef := [14, 11, 10, 7, 6, 5, 4, 1, 0, 3, 2, 9, 8] },
                                                  { dst := some 98, op := Op.binOp BinOp.eql 3 (Operand.tmp 95) (Operand.tmp 97) 3, guard := some (some 93, true),
                                                    bef := [13, 12, 11, 10, 7, 6, 5, 4, 1, 0, 3, 2, 9, 8, 15, 14] },
                                                  { dst := some 99, op := Op.pick (Operand.tmp 93) (Operand.tmp 98) (Operand.const (Value.bool false)), guard := some (some 87, false),
                                                    bef := [11, 10, 7, 6, 5, 4, 1, 0, 3, 2, 9, 8, 16, 13, 12, 15, 14] },
                                                  { dst := some 100, op := Op.move (Operand.tmp 99), guard := some (some 87, false),
                                                    bef := [17, 11, 10, 7, 6, 5, 4, 1, 0, 3, 2, 9, 8, 16, 13, 12, 15, 14] },
                                                  { dst := some 101, op := Op.fieldAddr 28 (Operand.tmp 9) 0, guard := some (some 100, true),
                                                    bef := [18, 17, 11, 10, 7, 6, 5, 4, 1, 0, 3, 2, 9, 8, 16, 13, 12, 15, 14] },
                                                  { dst := some 102, op := Op.load 3 (Operand.tmp 101), guard := some (some 100, true),
                                                    bef := [19, 18, 17, 11, 10, 7, 6, 5, 4, 1, 0, 3, 2, 9, 8, 16, 13, 12, 15, 14] },
                                                  { dst := some 103, op := Op.fieldAddr 26 (Operand.tmp 4) 2, guard := some (some 100, true),
                                                    bef := [18, 17, 11, 10, 7, 6, 5, 4, 1, 0, 3, 2, 9, 8, 16, 13, 12, 15, 14] },
                                                  { dst := some 104, op := Op.load 3 (Operand.tmp 103), guard := some (some 100, true),
                                                    bef := [21, 18, 17, 11, 10, 7, 6, 5, 4, 1, 0, 3, 2, 9, 8, 16, 13, 12, 15, 14] },
                                                  { dst := some 105, op := Op.unOp UnOp.neg 3 (Operand.tmp 104), guard := some (some 100, true),
                                                    bef := [22, 21, 18, 17, 11, 10, 7, 6, 5, 4, 1, 0, 3, 2, 9, 8, 16, 13, 12, 15, 14] },
                                                  { dst := some 106, op := Op.binOp BinOp.neq 3 (Operand.tmp 102) (Operand.tmp 105) 3, guard := some (some 100, true),
                                                    bef := [20, 19, 18, 17, 11, 10, 7, 6, 5, 4, 1, 0, 3, 2, 9, 8, 16, 13, 12, 15, 14, 23, 22, 21] },
                                                  { dst := some 107, op := Op.pick (Operand.tmp 100) (Operand.tmp 106) (Operand.const (Value.bool false)), guard := some (some 87, false),
                                                    bef := [18, 17, 11, 10, 7, 6, 5, 4, 1, 0, 3, 2, 9, 8, 16, 13, 12, 15, 14, 24, 20, 19, 23, 22, 21] },
                                                  { dst := some 108, op := Op.move (Operand.tmp 107), guard := some (some 87, false),
                                                    bef := [25, 18, 17, 11, 10, 7, 6, 5, 4, 1, 0, 3, 2, 9, 8, 16, 13, 12, 15, 14, 24, 20, 19, 23, 22, 21] },
                                                  { dst := some 109, op := Op.fieldAddr 28 (Operand.tmp 9) 0, guard := some (some 108, true),
                                                    bef := [26, 25, 18, 17, 11, 10, 7, 6, 5, 4, 1, 0, 3, 2, 9, 8, 16, 13, 12, 15, 14, 24, 20, 19, 23, 22, 21] },
                                                  { dst := some 110, op := Op.load 3 (Operand.tmp 109), guard := some (some 108, true),
                                                    bef := [27, 26, 25, 18, 17, 11, 10, 7, 6, 5, 4, 1, 0, 3, 2, 9, 8, 16, 13, 12, 15, 14, 24, 20, 19, 23, 22, 21] },
                                                  { dst := some 111, op := Op.fieldAddr 26 (Operand.tmp 4) 0, guard := some (some 108, true),
                                                    bef := [26, 25, 18, 17, 11, 10, 7, 6, 5, 4, 1, 0, 3, 2, 9, 8, 16, 13, 12, 15, 14, 24, 20, 19, 23, 22, 21] },
                                                  { dst := some 112, op := Op.load 22 (Operand.tmp 111), guard := some (some 108, true),
                                                    bef := [29, 26, 25, 18, 17, 11, 10, 7, 6, 5, 4, 1, 0, 3, 2, 9, 8, 16, 13, 12, 15, 14, 24, 20, 19, 23, 22, 21] },
                                                  { dst := some 113, op := Op.fieldAddr 26 (Operand.tmp 4) 0, guard := some (some 108, true),
                                                    bef := [26, 25, 18, 17, 11, 10, 7, 6, 5, 4, 1, 0, 3, 2, 9, 8, 16, 13, 12, 15, 14, 24, 20, 19, 23, 22, 21] },
                                                  { dst := some 114, op := Op.load 22 (Operand.tmp 113), guard := some (some 108, true),
                                                    bef := [31, 26, 25, 18, 17, 11, 10, 7, 6, 5, 4, 1, 0, 3, 2, 9, 8, 16, 13, 12, 15, 14, 24, 20, 19, 23, 22, 21] },
                                                  { dst := some 115, op := Op.call { callee := Callee.builtin Builtin.len, args := { toList := [Operand.tmp 114] }, argTypes := { toList := [22] } },
                                                    guard := some (some 108, true), bef := [32, 31, 26, 25, 18, 17, 11, 10, 7, 6, 5, 4, 1, 0, 3, 2, 9, 8, 16, 13, 12, 15, 14, 24, 20, 19, 23, 22, 21] },
                                                  { dst := some 116, op := Op.binOp BinOp.sub 3 (Operand.tmp 115) (Operand.const (Value.int IntKind.i64 (Int.ofNat 1))) 3,
                                                    guard := some (some 108, true),
                                                    bef := [33, 32, 31, 26, 25, 18, 17, 11, 10, 7, 6, 5, 4, 1, 0, 3, 2, 9, 8, 16, 13, 12, 15, 14, 24, 20, 19, 23, 22, 21] },
                                                  { dst := some 117, op := Op.indexAddr 22 (Operand.tmp 112) (Operand.tmp 116), guard := some (some 108, true),
                                                    bef := [30, 29, 26, 25, 18, 17, 11, 10, 7, 6, 5, 4, 1, 0, 3, 2, 9, 8, 16, 13, 12, 15, 14, 24, 20, 19, 23, 22, 21, 34, 33, 32, 31] },
                                                  { dst := some 118, op := Op.load 3 (Operand.tmp 117), guard := some (some 108, true),
                                                    bef := [35, 30, 29, 26, 25, 18, 17, 11, 10, 7, 6, 5, 4, 1, 0, 3, 2, 9, 8, 16, 13, 12, 15, 14, 24, 20, 19, 23, 22, 21, 34, 33, 32, 31] },
                                                  { dst := some 119, op := Op.fieldAddr 26 (Operand.tmp 4) 2, guard := some (some 108, true),
                                                    bef := [26, 25, 18, 17, 11, 10, 7, 6, 5, 4, 1, 0, 3, 2, 9, 8, 16, 13, 12, 15, 14, 24, 20, 19, 23, 22, 21] },
                                                  { dst := some 120, op := Op.load 3 (Operand.tmp 119), guard := some (some 108, true),
                                                    bef := [37, 26, 25, 18, 17, 11, 10, 7, 6, 5, 4, 1, 0, 3, 2, 9, 8, 16, 13, 12, 15, 14, 24, 20, 19, 23, 22, 21] },
                                                  { dst := some 121, op := Op.binOp BinOp.add 3 (Operand.tmp 118) (Operand.tmp 120) 3, guard := some (some 108, true),
                                                    bef := [36, 35, 30, 29, 26, 25, 18, 17, 11, 10, 7, 6, 5, 4, 1, 0, 3, 2, 9, 8, 16, 13, 12, 15, 14, 24, 20, 19, 23, 22, 21, 34, 33, 32, 31, 38, 37] },
                                                  { dst := some 122, op := Op.binOp BinOp.neq 3 (Operand.tmp 110) (Operand.tmp 121) 3, guard := some (some 108, true),
                                                    bef :=
                                                      [28, 27, 26, 25, 18, 17, 11, 10, 7, 6, 5, 4, 1, 0, 3, 2, 9, 8, 16, 13, 12, 15, 14, 24, 20, 19, 23, 22, 21, 39, 36, 35, 30, 29, 34, 33, 32, 31, 38,
                                                        37] },
                                                  { dst := some 123, op := Op.pick (Operand.tmp 108) (Operand.tmp 122) (Operand.const (Value.bool false)), guard := some (some 87, false),
                                                    bef :=
                                                      [26, 25, 18, 17, 11, 10, 7, 6, 5, 4, 1, 0, 3, 2, 9, 8, 16, 13, 12, 15, 14, 24, 20, 19, 23, 22, 21, 40, 28, 27, 39, 36, 35, 30, 29, 34, 33, 32, 31,
                                                        38, 37] },
                                                  { dst := some 124, op := Op.pick (Operand.tmp 87) (Operand.const (Value.bool true)) (Operand.tmp 123), guard := none,
                                                    bef :=
                                                      [5, 4, 1, 0, 3, 2, 41, 26, 25, 18, 17, 11, 10, 7, 6, 9, 8, 16, 13, 12, 15, 14, 24, 20, 19, 23, 22, 21, 40, 28, 27, 39, 36, 35, 30, 29, 34, 33, 32,
                                                        31, 38, 37] }]).seq
                                            (IC.cond (Operand.tmp 124) ((IC.ops [{ dst := some 8, op := Op.assign (Operand.const (Value.bool false)), guard := none }]).seq IC.ret) IC.skip)).seq
                                        ((IC.ops
                                              [{ dst := some 125, op := Op.fieldAddr 28 (Operand.tmp 9) 1, guard := none }, { dst := some 126, op := Op.load 3 (Operand.tmp 125), guard := none },
                                                { dst := some 127, op := Op.fieldAddr 28 (Operand.tmp 10) 1, guard := none }, { dst := some 128, op := Op.load 3 (Operand.tmp 127), guard := none },
                                                { dst := some 129, op := Op.binOp BinOp.gtr 3 (Operand.tmp 126) (Operand.tmp 128) 3, guard := none }]).seq
                                          (IC.cond (Operand.tmp 129) ((IC.ops [{ dst := some 8, op := Op.assign (Operand.const (Value.bool true)), guard := none }]).seq IC.ret) IC.skip))))))))).seq
                        (IC.ops
                          [{ dst := some 130, op := Op.binOp BinOp.add 3 (Operand.tmp 50) (Operand.const (Value.int IntKind.i64 (Int.ofNat 1))) 3, guard := none },
                            { dst := some 50, op := Op.move (Operand.tmp 130), guard := none }])))).loop)).seq
          ((IC.ops [{ dst := some 8, op := Op.assign (Operand.const (Value.bool true)), guard := none }]).seq IC.ret)))))
theorem ic6_eq : Try.f6.body.map comp = some ic6 := by kernel_rfl
theorem ic6_ok : Try.f6.body.map (okC Try.f6.ntmps) = some true := by kernel_rfl
theorem ic6_nm : (Try.f6.name != "runtime.NumGoroutine") = true := by kernel_rfl
@[simp] theorem ic6_n : Try.f6.ntmps = 131 := by kernel_rfl
@[simp] theorem ic6_r : Try.f6.results.toList = [ResultVar.tmp 8] := by kernel_rfl

def ic7 : IC :=
  (IC.ops
      [{ dst := some 3, op := Op.box 26 (Operand.tmp 0), guard := none }, { dst := some 4, op := Op.box 28 (Operand.tmp 1), guard := none },
        { dst := some 5, op := Op.box 30 (Operand.tmp 2), guard := none }, { dst := some 6, op := Op.assign (Operand.const (Value.bool false)), guard := none }]).seq
  (((IC.ops
            [{ dst := some 14, op := Op.call { callee := Callee.value (Operand.func 10), args := { toList := [] }, argTypes := { toList := [] } }, guard := none },
              { dst := some 15, op := Op.unOp UnOp.not 4 (Operand.tmp 14), guard := none }, { dst := some 16, op := Op.move (Operand.tmp 15), guard := none },
              { dst := some 17, op := Op.load 26 (Operand.tmp 3), guard := some (some 16, false) },
              { dst := some 18, op := Op.call { callee := Callee.value (Operand.func 11), args := { toList := [Operand.tmp 17] }, argTypes := { toList := [26] } }, guard := some (some 16, false) },
              { dst := some 19, op := Op.unOp UnOp.not 4 (Operand.tmp 18), guard := some (some 16, false) },
              { dst := some 20, op := Op.pick (Operand.tmp 16) (Operand.const (Value.bool true)) (Operand.tmp 19), guard := none }, { dst := some 21, op := Op.move (Operand.tmp 20), guard := none },
              { dst := some 22, op := Op.load 28 (Operand.tmp 4), guard := some (some 21, false) }, { dst := some 23, op := Op.load 30 (Operand.tmp 5), guard := some (some 21, false) },
              { dst := some 24, op := Op.call { callee := Callee.value (Operand.func 12), args := { toList := [Operand.tmp 22, Operand.tmp 23] }, argTypes := { toList := [28, 30] } },
                guard := some (some 21, false) },
              { dst := some 25, op := Op.unOp UnOp.not 4 (Operand.tmp 24), guard := some (some 21, false) },
              { dst := some 26, op := Op.pick (Operand.tmp 21) (Operand.const (Value.bool true)) (Operand.tmp 25), guard := none }]).seq
        (IC.cond (Operand.tmp 26)
          ((IC.ops
                [{ dst := some 27, op := Op.call { callee := Callee.value (Operand.func 10), args := { toList := [] }, argTypes := { toList := [] } }, guard := none },
                  { dst := some 6, op := Op.assign (Operand.tmp 27), guard := none }]).seq
            IC.ret)
          IC.skip)).seq
    ((IC.ops
          [{ dst := some 28, op := Op.fieldAddr 26 (Operand.tmp 3) 0, guard := none }, { dst := some 29, op := Op.load 22 (Operand.tmp 28), guard := none },
            { dst := some 30, op := Op.fieldAddr 26 (Operand.tmp 3) 0, guard := none }, { dst := some 31, op := Op.load 22 (Operand.tmp 30), guard := none },
            { dst := some 32, op := Op.call { callee := Callee.builtin Builtin.len, args := { toList := [Operand.tmp 31] }, argTypes := { toList := [22] } }, guard := none },
            { dst := some 33, op := Op.binOp BinOp.sub 3 (Operand.tmp 32) (Operand.const (Value.int IntKind.i64 (Int.ofNat 1))) 3, guard := none },
            { dst := some 34, op := Op.indexAddr 22 (Operand.tmp 29) (Operand.tmp 33), guard := none }, { dst := some 35, op := Op.load 3 (Operand.tmp 34), guard := none },
            { dst := some 7, op := Op.assign (Operand.tmp 35), guard := none }]).seq
      ((IC.ops
            [{ dst := some 36, op := Op.fieldAddr 30 (Operand.tmp 5) 4, guard := none }, { dst := none, op := Op.store 4 (Operand.tmp 36) (Operand.const (Value.bool false)), guard := none },
              { dst := some 37, op := Op.fieldAddr 30 (Operand.tmp 5) 3, guard := none },
              { dst := none, op := Op.store 3 (Operand.tmp 37) (Operand.const (Value.int IntKind.i64 (Int.ofNat 0))), guard := none }]).seq
        ((IC.ops
              [{ dst := some 38, op := Op.load 30 (Operand.tmp 5), guard := none }, { dst := some 8, op := Op.alloc 30, guard := none },
                { dst := none, op := Op.store 30 (Operand.tmp 8) (Operand.tmp 38), guard := none }]).seq
          (((IC.ops [{ dst := some 39, op := Op.fieldAddr 30 (Operand.tmp 5) 0, guard := none }, { dst := some 40, op := Op.load 3 (Operand.tmp 39), guard := none }]).seq
                (IC.block 0
                  ((IC.ops
                        [{ dst := some 42, op := Op.binOp BinOp.eql 3 (Operand.tmp 40) (Operand.const (Value.int IntKind.i64 (Int.ofNat 1))) 3, guard := none },
                          { dst := some 41, op := Op.assign (Operand.tmp 42), guard := none }]).seq
                    (IC.cond (Operand.tmp 41)
                      (IC.ops
                        [{ dst := some 43, op := Op.fieldAddr 30 (Operand.tmp 8) 0, guard := none },
                          { dst := none, op := Op.store 3 (Operand.tmp 43) (Operand.const (Value.int IntKind.i64 (Int.ofNat 3))), guard := none }])
                      ((IC.ops
                            [{ dst := some 45, op := Op.binOp BinOp.eql 3 (Operand.tmp 40) (Operand.const (Value.int IntKind.i64 (Int.ofNat 3))) 3, guard := none },
                              { dst := some 44, op := Op.assign (Operand.tmp 45), guard := none }]).seq
                        (IC.cond (Operand.tmp 44)
                          (IC.ops
                            [{ dst := some 46, op := Op.fieldAddr 30 (Operand.tmp 8) 0, guard := none },
                              { dst := none, op := Op.store 3 (Operand.tmp 46) (Operand.const (Value.int IntKind.i64 (Int.ofNat 1))), guard := none }])
                          ((IC.ops
                                [{ dst := some 48, op := Op.binOp BinOp.eql 3 (Operand.tmp 40) (Operand.const (Value.int IntKind.i64 (Int.ofNat 2))) 3, guard := none },
                                  { dst := some 47, op := Op.assign (Operand.tmp 48), guard := none }]).seq
                            (IC.cond (Operand.tmp 47)
                              (IC.ops
                                [{ dst := some 49, op := Op.fieldAddr 30 (Operand.tmp 8) 0, guard := none },
                                  { dst := none, op := Op.store 3 (Operand.tmp 49) (Operand.const (Value.int IntKind.i64 (Int.ofNat 4))), guard := none }])
                              ((IC.ops
                                    [{ dst := some 51, op := Op.binOp BinOp.eql 3 (Operand.tmp 40) (Operand.const (Value.int IntKind.i64 (Int.ofNat 4))) 3, guard := none },
                                      { dst := some 50, op := Op.assign (Operand.tmp 51), guard := none }]).seq
                                (IC.cond (Operand.tmp 50)
                                  (IC.ops
                                    [{ dst := some 52, op := Op.fieldAddr 30 (Operand.tmp 8) 0, guard := none },
                                      { dst := none, op := Op.store 3 (Operand.tmp 52) (Operand.const (Value.int IntKind.i64 (Int.ofNat 2))), guard := none }])
                                  IC.skip)))))))))).seq
            ((IC.ops
                  [{ dst := some 53, op := Op.load 26 (Operand.tmp 3), guard := none }, { dst := some 9, op := Op.alloc 26, guard := none },
                    { dst := none, op := Op.store 26 (Operand.tmp 9) (Operand.tmp 53), guard := none }]).seq
              ((IC.ops
                    [{ dst := some 54, op := Op.fieldAddr 26 (Operand.tmp 9) 0, guard := none },
                      { dst := none, op := Op.store 22 (Operand.tmp 54) (Operand.const (Value.slice none 0 0)), guard := none }]).seq
                (((IC.ops
                          [{ dst := some 55, op := Op.fieldAddr 26 (Operand.tmp 3) 0, guard := none }, { dst := some 56, op := Op.load 22 (Operand.tmp 55), guard := none },
                            { dst := some 57, op := Op.call { callee := Callee.builtin Builtin.len, args := { toList := [Operand.tmp 56] }, argTypes := { toList := [22] } }, guard := none },
                            { dst := some 58, op := Op.move (Operand.const (Value.int IntKind.i64 (Int.ofNat 0))), guard := none }]).seq
                      (IC.block 1
                        ((IC.ops [{ dst := some 59, op := Op.binOp BinOp.lss 3 (Operand.tmp 58) (Operand.tmp 57) 3, guard := none }]).seq
                            ((IC.cond (Operand.tmp 59) IC.skip (IC.exit 1)).seq
                              ((IC.block 2
                                    ((IC.ops [{ dst := some 60, op := Op.move (Operand.tmp 58), guard := none }, { dst := some 10, op := Op.assign (Operand.tmp 60), guard := none }]).seq
                                      (IC.opsD
                                        [{ dst := some 61, op := Op.fieldAddr 26 (Operand.tmp 9) 0, guard := none }, { dst := some 62, op := Op.load 22 (Operand.tmp 61), guard := none, bef := [0] },
                                          { dst := some 63, op := Op.move (Operand.tmp 7), guard := none }, { dst := some 64, op := Op.fieldAddr 26 (Operand.tmp 3) 0, guard := none },
                                          { dst := some 65, op := Op.load 22 (Operand.tmp 64), guard := none, bef := [3] }, { dst := some 66, op := Op.fieldAddr 26 (Operand.tmp 3) 0, guard := none },
                                          { dst := some 67, op := Op.load 22 (Operand.tmp 66), guard := none, bef := [5] },
                                          { dst := some 68, op := Op.call { callee := Callee.builtin Builtin.len, args := { toList := [Operand.tmp 67] }, argTypes := { toList := [22] } },
                                            guard := none, bef := [6, 5] },
                                          { dst := some 69, op := Op.binOp BinOp.sub 3 (Operand.tmp 68) (Operand.const (Value.int IntKind.i64 (Int.ofNat 1))) 3, guard := none, bef := [7, 6, 5] },
                                          { dst := some 70, op := Op.move (Operand.tmp 10), guard := none },
                                          { dst := some 71, op := Op.binOp BinOp.sub 3 (Operand.tmp 69) (Operand.tmp 70) 3, guard := none, bef := [8, 7, 6, 5, 9] },
                                          { dst := some 72, op := Op.indexAddr 22 (Operand.tmp 65) (Operand.tmp 71), guard := none, bef := [4, 3, 10, 8, 7, 6, 5, 9] },
                                          { dst := some 73, op := Op.load 3 (Operand.tmp 72), guard := none, bef := [11, 4, 3, 10, 8, 7, 6, 5, 9] },
                                          { dst := some 74, op := Op.binOp BinOp.sub 3 (Operand.tmp 63) (Operand.tmp 73) 3, guard := none, bef := [2, 12, 11, 4, 3, 10, 8, 7, 6, 5, 9] },
                                          { dst := some 75, op := Op.buildSlice 22 1 { toList := [(0, Operand.tmp 74)] }, guard := none, bef := [13, 2, 12, 11, 4, 3, 10, 8, 7, 6, 5, 9] },
                                          { dst := some 76,
                                            op := Op.call { callee := Callee.builtin Builtin.append, args := { toList := [Operand.tmp 62, Operand.tmp 75] }, argTypes := { toList := [22, 22] } },
                                            guard := none, bef := [1, 0, 14, 13, 2, 12, 11, 4, 3, 10, 8, 7, 6, 5, 9] },
                                          { dst := some 77, op := Op.fieldAddr 26 (Operand.tmp 9) 0, guard := none, bef := [0, 1, 2, 3, 4, 5, 6, 7, 8, 9, 10, 11, 12, 13, 14, 15] },
                                          { dst := none, op := Op.store 22 (Operand.tmp 77) (Operand.tmp 76), guard := none, bef := [16, 0, 1, 2, 3, 4, 5, 6, 7, 8, 9, 10, 11, 12, 13, 14, 15] }]))).seq
                                (IC.ops
                                  [{ dst := some 78, op := Op.binOp BinOp.add 3 (Operand.tmp 58) (Operand.const (Value.int IntKind.i64 (Int.ofNat 1))) 3, guard := none },
                                    { dst := some 58, op := Op.move (Operand.tmp 78), guard := none }])))).loop)).seq
                  ((IC.ops
                        [{ dst := some 79, op := Op.move (Operand.tmp 7), guard := none }, { dst := some 80, op := Op.fieldAddr 28 (Operand.tmp 4) 0, guard := none },
                          { dst := some 81, op := Op.load 3 (Operand.tmp 80), guard := none }, { dst := some 82, op := Op.binOp BinOp.sub 3 (Operand.tmp 79) (Operand.tmp 81) 3, guard := none },
                          { dst := some 83, op := Op.fieldAddr 28 (Operand.tmp 4) 1, guard := none }, { dst := some 84, op := Op.load 3 (Operand.tmp 83), guard := none },
                          { dst := some 85, op := Op.unOp UnOp.neg 3 (Operand.tmp 84), guard := none },
                          { dst := some 86, op := Op.build 28 { toList := [(0, Operand.tmp 82), (1, Operand.tmp 85)] }, guard := none }, { dst := some 11, op := Op.alloc 28, guard := none },
                          { dst := none, op := Op.store 28 (Operand.tmp 11) (Operand.tmp 86), guard := none }]).seq
                    (((IC.ops
                              [{ dst := some 87, op := Op.load 26 (Operand.tmp 9), guard := none },
                                { dst := some 88, op := Op.call { callee := Callee.value (Operand.func 11), args := { toList := [Operand.tmp 87] }, argTypes := { toList := [26] } }, guard := none },
                                { dst := some 89, op := Op.unOp UnOp.not 4 (Operand.tmp 88), guard := none }, { dst := some 90, op := Op.move (Operand.tmp 89), guard := none },
                                { dst := some 91, op := Op.load 28 (Operand.tmp 11), guard := some (some 90, false) },
                                { dst := some 92, op := Op.load 30 (Operand.tmp 8), guard := some (some 90, false) },
                                { dst := some 93,
                                  op := Op.call { callee := Callee.value (Operand.func 12), args := { toList := [Operand.tmp 91, Operand.tmp 92] }, argTypes := { toList := [28, 30] } },
                                  guard := some (some 90, false) },
                                { dst := some 94, op := Op.unOp UnOp.not 4 (Operand.tmp 93), guard := some (some 90, false) },
                                { dst := some 95, op := Op.pick (Operand.tmp 90) (Operand.const (Value.bool true)) (Operand.tmp 94), guard := none }]).seq
                          (IC.cond (Operand.tmp 95) ((IC.ops [{ dst := some 6, op := Op.assign (Operand.const (Value.bool true)), guard := none }]).seq IC.ret) IC.skip)).seq
                      ((IC.opsD
                            [{ dst := some 96, op := Op.load 26 (Operand.tmp 3), guard := none }, { dst := some 97, op := Op.load 28 (Operand.tmp 4), guard := none },
                              { dst := some 98, op := Op.load 30 (Operand.tmp 5), guard := none },
                              { dst := some 99,
                                op :=
                                  Op.call { callee := Callee.value (Operand.func 13), args := { toList := [Operand.tmp 96, Operand.tmp 97, Operand.tmp 98] }, argTypes := { toList := [26, 28, 35] } },
                                guard := none, bef := [0, 1, 2] },
                              { dst := some 100, op := Op.load 26 (Operand.tmp 9), guard := none }, { dst := some 101, op := Op.load 28 (Operand.tmp 11), guard := none },
                              { dst := some 102, op := Op.load 30 (Operand.tmp 8), guard := none },
                              { dst := some 103,
                                op :=
                                  Op.call
                                    { callee := Callee.value (Operand.func 13), args := { toList := [Operand.tmp 100, Operand.tmp 101, Operand.tmp 102] }, argTypes := { toList := [26, 28, 35] } },
                                guard := none, bef := [4, 5, 6, 3, 0, 1, 2] },
                              { dst := some 12, op := Op.alloc 28, guard := none }, { dst := some 13, op := Op.alloc 28, guard := none },
                              { dst := none, op := Op.store 28 (Operand.tmp 12) (Operand.tmp 99), guard := none, bef := [8, 3, 0, 1, 2, 7, 4, 5, 6, 9] },
                              { dst := none, op := Op.store 28 (Operand.tmp 13) (Operand.tmp 103), guard := none, bef := [9, 7, 4, 5, 6, 3, 0, 1, 2, 10, 8] }]).seq
                        ((IC.opsD
                              [{ dst := some 104, op := Op.fieldAddr 28 (Operand.tmp 12) 0, guard := none }, { dst := some 105, op := Op.load 3 (Operand.tmp 104), guard := none, bef := [0] },
                                { dst := some 106, op := Op.move (Operand.tmp 7), guard := none }, { dst := some 107, op := Op.fieldAddr 28 (Operand.tmp 13) 0, guard := none },
                                { dst := some 108, op := Op.load 3 (Operand.tmp 107), guard := none, bef := [3] },
                                { dst := some 109, op := Op.binOp BinOp.sub 3 (Operand.tmp 106) (Operand.tmp 108) 3, guard := none, bef := [2, 4, 3] },
                                { dst := some 110, op := Op.binOp BinOp.eql 3 (Operand.tmp 105) (Operand.tmp 109) 3, guard := none, bef := [1, 0, 5, 2, 4, 3] },
                                { dst := some 111, op := Op.move (Operand.tmp 110), guard := none, bef := [6, 1, 0, 5, 2, 4, 3] },
                                { dst := some 112, op := Op.fieldAddr 28 (Operand.tmp 12) 1, guard := some (some 111, true), bef := [7, 6, 1, 0, 5, 2, 4, 3] },
                                { dst := some 113, op := Op.load 3 (Operand.tmp 112), guard := some (some 111, true), bef := [8, 7, 6, 1, 0, 5, 2, 4, 3] },
                                { dst := some 114, op := Op.fieldAddr 28 (Operand.tmp 13) 1, guard := some (some 111, true), bef := [7, 6, 1, 0, 5, 2, 4, 3] },
                                { dst := some 115, op := Op.load 3 (Operand.tmp 114), guard := some (some 111, true), bef := [10, 7, 6, 1, 0, 5, 2, 4, 3] },
                                { dst := some 116, op := Op.unOp UnOp.neg 3 (Operand.tmp 115), guard := some (some 111, true), bef := [11, 10, 7, 6, 1, 0, 5, 2, 4, 3] },
                                { dst := some 117, op := Op.binOp BinOp.eql 3 (Operand.tmp 113) (Operand.tmp 116) 3, guard := some (some 111, true),
                                  bef := [9, 8, 7, 6, 1, 0, 5, 2, 4, 3, 12, 11, 10] },
                                { dst := some 118, op := Op.pick (Operand.tmp 111) (Operand.tmp 117) (Operand.const (Value.bool false)), guard := none,
                                  bef := [7, 6, 1, 0, 5, 2, 4, 3, 13, 9, 8, 12, 11, 10] },
                                { dst := some 119, op := Op.move (Operand.tmp 118), guard := none, bef := [14, 7, 6, 1, 0, 5, 2, 4, 3, 13, 9, 8, 12, 11, 10] },
                                { dst := some 120, op := Op.load 26 (Operand.tmp 3), guard := some (some 119, true), bef := [15, 14, 7, 6, 1, 0, 5, 2, 4, 3, 13, 9, 8, 12, 11, 10] },
                                { dst := some 121, op := Op.load 30 (Operand.tmp 5), guard := some (some 119, true), bef := [15, 14, 7, 6, 1, 0, 5, 2, 4, 3, 13, 9, 8, 12, 11, 10] },
                                { dst := some 122,
                                  op := Op.call { callee := Callee.value (Operand.func 15), args := { toList := [Operand.tmp 120, Operand.tmp 121] }, argTypes := { toList := [26, 35] } },
                                  guard := some (some 119, true), bef := [16, 15, 14, 7, 6, 1, 0, 5, 2, 4, 3, 13, 9, 8, 12, 11, 10, 17] },
                                { dst := some 123, op := Op.load 26 (Operand.tmp 9), guard := some (some 119, true), bef := [15, 14, 7, 6, 1, 0, 5, 2, 4, 3, 13, 9, 8, 12, 11, 10] },
                                { dst := some 124, op := Op.load 30 (Operand.tmp 8), guard := some (some 119, true), bef := [15, 14, 7, 6, 1, 0, 5, 2, 4, 3, 13, 9, 8, 12, 11, 10] },
                                { dst := some 125,
                                  op := Op.call { callee := Callee.value (Operand.func 15), args := { toList := [Operand.tmp 123, Operand.tmp 124] }, argTypes := { toList := [26, 35] } },
                                  guard := some (some 119, true), bef := [19, 15, 14, 7, 6, 1, 0, 5, 2, 4, 3, 13, 9, 8, 12, 11, 10, 20, 18, 16, 17] },
                                { dst := some 126, op := Op.unOp UnOp.neg 3 (Operand.tmp 125), guard := some (some 119, true),
                                  bef := [21, 19, 15, 14, 7, 6, 1, 0, 5, 2, 4, 3, 13, 9, 8, 12, 11, 10, 20, 18, 16, 17] },
                                { dst := some 127, op := Op.binOp BinOp.eql 3 (Operand.tmp 122) (Operand.tmp 126) 3, guard := some (some 119, true),
                                  bef := [18, 16, 15, 14, 7, 6, 1, 0, 5, 2, 4, 3, 13, 9, 8, 12, 11, 10, 17, 22, 21, 19, 20] },
                                { dst := some 128, op := Op.pick (Operand.tmp 119) (Operand.tmp 127) (Operand.const (Value.bool false)), guard := none,
                                  bef := [15, 14, 7, 6, 1, 0, 5, 2, 4, 3, 13, 9, 8, 12, 11, 10, 23, 18, 16, 17, 22, 21, 19, 20] },
                                { dst := some 6, op := Op.assign (Operand.tmp 128), guard := none,
                                  bef := [24, 15, 14, 7, 6, 1, 0, 5, 2, 4, 3, 13, 9, 8, 12, 11, 10, 23, 18, 16, 17, 22, 21, 19, 20] }]).seq
                          IC.ret))))))))))))
theorem ic7_eq : Try.f7.body.map comp = some ic7 := by kernel_rfl
theorem ic7_ok : Try.f7.body.map (okC Try.f7.ntmps) = some true := by kernel_rfl
theorem ic7_nm : (Try.f7.name != "runtime.NumGoroutine") = true := by kernel_rfl
@[simp] theorem ic7_n : Try.f7.ntmps = 129 := by kernel_rfl
@[simp] theorem ic7_r : Try.f7.results.toList = [ResultVar.tmp 6] := by kernel_rfl

def ic8 : IC :=
  (IC.ops [{ dst := some 2, op := Op.box 26 (Operand.tmp 0), guard := none }, { dst := some 4, op := Op.assign (Operand.const (Value.bool false)), guard := none }]).seq
  (((IC.ops
            [{ dst := some 9, op := Op.call { callee := Callee.value (Operand.func 10), args := { toList := [] }, argTypes := { toList := [] } }, guard := none },
              { dst := some 10, op := Op.unOp UnOp.not 4 (Operand.tmp 9), guard := none }, { dst := some 11, op := Op.move (Operand.tmp 10), guard := none },
              { dst := some 12, op := Op.load 26 (Operand.tmp 2), guard := some (some 11, false) },
              { dst := some 13, op := Op.call { callee := Callee.value (Operand.func 11), args := { toList := [Operand.tmp 12] }, argTypes := { toList := [26] } }, guard := some (some 11, false) },
              { dst := some 14, op := Op.unOp UnOp.not 4 (Operand.tmp 13), guard := some (some 11, false) },
              { dst := some 15, op := Op.pick (Operand.tmp 11) (Operand.const (Value.bool true)) (Operand.tmp 14), guard := none }, { dst := some 16, op := Op.move (Operand.tmp 15), guard := none },
              { dst := some 17, op := Op.move (Operand.tmp 1), guard := some (some 16, false) },
              { dst := some 18, op := Op.call { callee := Callee.builtin Builtin.len, args := { toList := [Operand.tmp 17] }, argTypes := { toList := [40] } }, guard := some (some 16, false) },
              { dst := some 19, op := Op.binOp BinOp.gtr 3 (Operand.tmp 18) (Operand.const (Value.int IntKind.i64 (Int.ofNat 300))) 3, guard := some (some 16, false) },
              { dst := some 20, op := Op.pick (Operand.tmp 16) (Operand.const (Value.bool true)) (Operand.tmp 19), guard := none }]).seq
        (IC.cond (Operand.tmp 20)
          ((IC.ops
                [{ dst := some 21, op := Op.call { callee := Callee.value (Operand.func 10), args := { toList := [] }, argTypes := { toList := [] } }, guard := none },
                  { dst := some 4, op := Op.assign (Operand.tmp 21), guard := none }]).seq
            IC.ret)
          IC.skip)).seq
    ((IC.ops [{ dst := some 5, op := Op.alloc 28, guard := none }]).seq
      ((IC.ops [{ dst := some 6, op := Op.assign (Operand.const (Value.int IntKind.i64 (Int.ofNat 0))), guard := none }]).seq
        (((IC.ops
                  [{ dst := some 22, op := Op.move (Operand.tmp 1), guard := none },
                    { dst := some 23, op := Op.call { callee := Callee.builtin Builtin.len, args := { toList := [Operand.tmp 22] }, argTypes := { toList := [40] } }, guard := none },
                    { dst := some 24, op := Op.move (Operand.const (Value.int IntKind.i64 (Int.ofNat 0))), guard := none }]).seq
              (IC.block 0
                ((IC.ops [{ dst := some 25, op := Op.binOp BinOp.lss 3 (Operand.tmp 24) (Operand.tmp 23) 3, guard := none }]).seq
                    ((IC.cond (Operand.tmp 25) IC.skip (IC.exit 0)).seq
                      ((IC.block 1
                            ((IC.ops [{ dst := some 26, op := Op.move (Operand.tmp 24), guard := none }, { dst := some 7, op := Op.assign (Operand.tmp 26), guard := none }]).seq
                              ((IC.ops
                                    [{ dst := some 27, op := Op.move (Operand.tmp 1), guard := none }, { dst := some 28, op := Op.move (Operand.tmp 7), guard := none },
                                      { dst := some 29, op := Op.indexAddr 40 (Operand.tmp 27) (Operand.tmp 28), guard := none }, { dst := some 30, op := Op.load 30 (Operand.tmp 29), guard := none },
                                      { dst := some 8, op := Op.alloc 30, guard := none }, { dst := none, op := Op.store 30 (Operand.tmp 8) (Operand.tmp 30), guard := none }]).seq
                                (((IC.ops
                                          [{ dst := some 31, op := Op.load 28 (Operand.tmp 5), guard := none }, { dst := some 32, op := Op.load 30 (Operand.tmp 8), guard := none },
                                            { dst := some 33,
                                              op := Op.call { callee := Callee.value (Operand.func 12), args := { toList := [Operand.tmp 31, Operand.tmp 32] }, argTypes := { toList := [28, 30] } },
                                              guard := none },
                                            { dst := some 34, op := Op.unOp UnOp.not 4 (Operand.tmp 33), guard := none }]).seq
                                      (IC.cond (Operand.tmp 34) ((IC.ops [{ dst := some 4, op := Op.assign (Operand.const (Value.bool true)), guard := none }]).seq IC.ret) IC.skip)).seq
                                  ((IC.ops
                                        [{ dst := some 35, op := Op.fieldAddr 30 (Operand.tmp 8) 4, guard := none },
                                          { dst := none, op := Op.store 4 (Operand.tmp 35) (Operand.const (Value.bool false)), guard := none }]).seq
                                    ((IC.ops
                                          [{ dst := some 36, op := Op.load 26 (Operand.tmp 2), guard := none }, { dst := some 37, op := Op.load 28 (Operand.tmp 5), guard := none },
                                            { dst := some 38, op := Op.load 30 (Operand.tmp 8), guard := none },
                                            { dst := some 39,
                                              op :=
                                                Op.call
                                                  { callee := Callee.value (Operand.func 13), args := { toList := [Operand.tmp 36, Operand.tmp 37, Operand.tmp 38] },
                                                    argTypes := { toList := [26, 28, 35] } },
                                              guard := none },
                                            { dst := none, op := Op.store 28 (Operand.tmp 5) (Operand.tmp 39), guard := none }]).seq
                                      ((IC.ops
                                            [{ dst := some 40, op := Op.move (Operand.tmp 6), guard := none },
                                              { dst := some 41, op := Op.binOp BinOp.add 3 (Operand.tmp 40) (Operand.const (Value.int IntKind.i64 (Int.ofNat 1))) 3, guard := none },
                                              { dst := some 6, op := Op.assign (Operand.tmp 41), guard := none }]).seq
                                        (((IC.ops
                                                  [{ dst := some 42, op := Op.fieldAddr 30 (Operand.tmp 8) 1, guard := none }, { dst := some 43, op := Op.load 4 (Operand.tmp 42), guard := none },
                                                    { dst := some 44, op := Op.move (Operand.tmp 43), guard := none },
                                                    { dst := some 45, op := Op.fieldAddr 30 (Operand.tmp 8) 0, guard := some (some 44, true) },
                                                    { dst := some 46, op := Op.load 3 (Operand.tmp 45), guard := some (some 44, true) },
                                                    { dst := some 47, op := Op.binOp BinOp.neq 3 (Operand.tmp 46) (Operand.const (Value.int IntKind.i64 (Int.ofNat 0))) 3,
                                                      guard := some (some 44, true) },
                                                    { dst := some 48, op := Op.pick (Operand.tmp 44) (Operand.tmp 47) (Operand.const (Value.bool false)), guard := none }]).seq
                                              (IC.cond (Operand.tmp 48) (IC.ops [{ dst := some 6, op := Op.assign (Operand.const (Value.int IntKind.i64 (Int.ofNat 0))), guard := none }]) IC.skip)).seq
                                          (((IC.opsD
                                                    [{ dst := some 49, op := Op.fieldAddr 28 (Operand.tmp 5) 0, guard := none },
                                                      { dst := some 50, op := Op.load 3 (Operand.tmp 49), guard := none, bef := [0] },
                                                      { dst := some 51, op := Op.fieldAddr 26 (Operand.tmp 2) 2, guard := none },
                                                      { dst := some 52, op := Op.load 3 (Operand.tmp 51), guard := none, bef := [2] },
                                                      { dst := some 53, op := Op.unOp UnOp.neg 3 (Operand.tmp 52), guard := none, bef := [3, 2] },
                                                      { dst := some 54, op := Op.binOp BinOp.lss 3 (Operand.tmp 50) (Operand.tmp 53) 3, guard := none, bef := [1, 0, 4, 3, 2] },
                                                      { dst := some 55, op := Op.move (Operand.tmp 54), guard := none, bef := [5, 1, 0, 4, 3, 2] },
                                                      { dst := some 56, op := Op.fieldAddr 28 (Operand.tmp 5) 0, guard := some (some 55, false), bef := [6, 5, 1, 0, 4, 3, 2] },
                                                      { dst := some 57, op := Op.load 3 (Operand.tmp 56), guard := some (some 55, false), bef := [7, 6, 5, 1, 0, 4, 3, 2] },
                                                      { dst := some 58, op := Op.fieldAddr 26 (Operand.tmp 2) 0, guard := some (some 55, false), bef := [6, 5, 1, 0, 4, 3, 2] },
                                                      { dst := some 59, op := Op.load 22 (Operand.tmp 58), guard := some (some 55, false), bef := [9, 6, 5, 1, 0, 4, 3, 2] },
                                                      { dst := some 60, op := Op.fieldAddr 26 (Operand.tmp 2) 0, guard := some (some 55, false), bef := [6, 5, 1, 0, 4, 3, 2] },
                                                      { dst := some 61, op := Op.load 22 (Operand.tmp 60), guard := some (some 55, false), bef := [11, 6, 5, 1, 0, 4, 3, 2] },
                                                      { dst := some 62, op := Op.call { callee := Callee.builtin Builtin.len, args := { toList := [Operand.tmp 61] }, argTypes := { toList := [22] } },
                                                        guard := some (some 55, false), bef := [12, 11, 6, 5, 1, 0, 4, 3, 2] },
                                                      { dst := some 63, op := Op.binOp BinOp.sub 3 (Operand.tmp 62) (Operand.const (Value.int IntKind.i64 (Int.ofNat 1))) 3,
                                                        guard := some (some 55, false), bef := [13, 12, 11, 6, 5, 1, 0, 4, 3, 2] },
                                                      { dst := some 64, op := Op.indexAddr 22 (Operand.tmp 59) (Operand.tmp 63), guard := some (some 55, false),
                                                        bef := [10, 9, 6, 5, 1, 0, 4, 3, 2, 14, 13, 12, 11] },
                                                      { dst := some 65, op := Op.load 3 (Operand.tmp 64), guard := some (some 55, false), bef := [15, 10, 9, 6, 5, 1, 0, 4, 3, 2, 14, 13, 12, 11] },
                                                      { dst := some 66, op := Op.fieldAddr 26 (Operand.tmp 2) 2, guard := some (some 55, false), bef := [6, 5, 1, 0, 4, 3, 2] },
                                                      { dst := some 67, op := Op.load 3 (Operand.tmp 66), guard := some (some 55, false), bef := [17, 6, 5, 1, 0, 4, 3, 2] },
                                                      { dst := some 68, op := Op.binOp BinOp.add 3 (Operand.tmp 65) (Operand.tmp 67) 3, guard := some (some 55, false),
                                                        bef := [16, 15, 10, 9, 6, 5, 1, 0, 4, 3, 2, 14, 13, 12, 11, 18, 17] },
                                                      { dst := some 69, op := Op.binOp BinOp.gtr 3 (Operand.tmp 57) (Operand.tmp 68) 3, guard := some (some 55, false),
                                                        bef := [8, 7, 6, 5, 1, 0, 4, 3, 2, 19, 16, 15, 10, 9, 14, 13, 12, 11, 18, 17] },
                                                      { dst := some 70, op := Op.pick (Operand.tmp 55) (Operand.const (Value.bool true)) (Operand.tmp 69), guard := none,
                                                        bef := [6, 5, 1, 0, 4, 3, 2, 20, 8, 7, 19, 16, 15, 10, 9, 14, 13, 12, 11, 18, 17] },
                                                      { dst := some 71, op := Op.move (Operand.tmp 70), guard := none,
                                                        bef := [21, 6, 5, 1, 0, 4, 3, 2, 20, 8, 7, 19, 16, 15, 10, 9, 14, 13, 12, 11, 18, 17] },
                                                      { dst := some 72, op := Op.fieldAddr 28 (Operand.tmp 5) 1, guard := some (some 71, false),
                                                        bef := [22, 21, 6, 5, 1, 0, 4, 3, 2, 20, 8, 7, 19, 16, 15, 10, 9, 14, 13, 12, 11, 18, 17] },
                                                      { dst := some 73, op := Op.load 3 (Operand.tmp 72), guard := some (some 71, false),
                                                        bef := [23, 22, 21, 6, 5, 1, 0, 4, 3, 2, 20, 8, 7, 19, 16, 15, 10, 9, 14, 13, 12, 11, 18, 17] },
                                                      { dst := some 74, op := Op.fieldAddr 26 (Operand.tmp 2) 7, guard := some (some 71, false),
                                                        bef := [22, 21, 6, 5, 1, 0, 4, 3, 2, 20, 8, 7, 19, 16, 15, 10, 9, 14, 13, 12, 11, 18, 17] },
                                                      { dst := some 75, op := Op.fieldAddr 24 (Operand.tmp 74) 1, guard := some (some 71, false),
                                                        bef := [25, 22, 21, 6, 5, 1, 0, 4, 3, 2, 20, 8, 7, 19, 16, 15, 10, 9, 14, 13, 12, 11, 18, 17] },
                                                      { dst := some 76, op := Op.load 3 (Operand.tmp 75), guard := some (some 71, false),
                                                        bef := [26, 25, 22, 21, 6, 5, 1, 0, 4, 3, 2, 20, 8, 7, 19, 16, 15, 10, 9, 14, 13, 12, 11, 18, 17] },
                                                      { dst := some 77, op := Op.binOp BinOp.gtr 3 (Operand.tmp 73) (Operand.tmp 76) 3, guard := some (some 71, false),
                                                        bef := [24, 23, 22, 21, 6, 5, 1, 0, 4, 3, 2, 20, 8, 7, 19, 16, 15, 10, 9, 14, 13, 12, 11, 18, 17, 27, 26, 25] },
                                                      { dst := some 78, op := Op.pick (Operand.tmp 71) (Operand.const (Value.bool true)) (Operand.tmp 77), guard := none,
                                                        bef := [22, 21, 6, 5, 1, 0, 4, 3, 2, 20, 8, 7, 19, 16, 15, 10, 9, 14, 13, 12, 11, 18, 17, 28, 24, 23, 27, 26, 25] },
                                                      { dst := some 79, op := Op.move (Operand.tmp 78), guard := none,
                                                        bef := [29, 22, 21, 6, 5, 1, 0, 4, 3, 2, 20, 8, 7, 19, 16, 15, 10, 9, 14, 13, 12, 11, 18, 17, 28, 24, 23, 27, 26, 25] },
                                                      { dst := some 80, op := Op.fieldAddr 28 (Operand.tmp 5) 1, guard := some (some 79, false),
                                                        bef := [30, 29, 22, 21, 6, 5, 1, 0, 4, 3, 2, 20, 8, 7, 19, 16, 15, 10, 9, 14, 13, 12, 11, 18, 17, 28, 24, 23, 27, 26, 25] },
                                                      { dst := some 81, op := Op.load 3 (Operand.tmp 80), guard := some (some 79, false),
                                                        bef := [31, 30, 29, 22, 21, 6, 5, 1, 0, 4, 3, 2, 20, 8, 7, 19, 16, 15, 10, 9, 14, 13, 12, 11, 18, 17, 28, 24, 23, 27, 26, 25] },
                                                      { dst := some 82, op := Op.fieldAddr 26 (Operand.tmp 2) 7, guard := some (some 79, false),
                                                        bef := [30, 29, 22, 21, 6, 5, 1, 0, 4, 3, 2, 20, 8, 7, 19, 16, 15, 10, 9, 14, 13, 12, 11, 18, 17, 28, 24, 23, 27, 26, 25] },
                                                      { dst := some 83, op := Op.fieldAddr 24 (Operand.tmp 82) 1, guard := some (some 79, false),
                                                        bef := [33, 30, 29, 22, 21, 6, 5, 1, 0, 4, 3, 2, 20, 8, 7, 19, 16, 15, 10, 9, 14, 13, 12, 11, 18, 17, 28, 24, 23, 27, 26, 25] },
                                                      { dst := some 84, op := Op.load 3 (Operand.tmp 83), guard := some (some 79, false),
                                                        bef := [34, 33, 30, 29, 22, 21, 6, 5, 1, 0, 4, 3, 2, 20, 8, 7, 19, 16, 15, 10, 9, 14, 13, 12, 11, 18, 17, 28, 24, 23, 27, 26, 25] },
                                                      { dst := some 85, op := Op.unOp UnOp.neg 3 (Operand.tmp 84), guard := some (some 79, false),
                                                        bef := [35, 34, 33, 30, 29, 22, 21, 6, 5, 1, 0, 4, 3, 2, 20, 8, 7, 19, 16, 15, 10, 9, 14, 13, 12, 11, 18, 17, 28, 24, 23, 27, 26, 25] },
                                                      { dst := some 86, op := Op.binOp BinOp.lss 3 (Operand.tmp 81) (Operand.tmp 85) 3, guard := some (some 79, false),
                                                        bef :=
                                                          [32, 31, 30, 29, 22, 21, 6, 5, 1, 0, 4, 3, 2, 20, 8, 7, 19, 16, 15, 10, 9, 14, 13, 12, 11, 18, 17, 28, 24, 23, 27, 26, 25, 36, 35, 34, 33] },
                                                      { dst := some 87, op := Op.pick (Operand.tmp 79) (Operand.const (Value.bool true)) (Operand.tmp 86), guard := none,
                                                        bef :=
                                                          [30, 29, 22, 21, 6, 5, 1, 0, 4, 3, 2, 20, 8, 7, 19, 16, 15, 10, 9, 14, 13, 12, 11, 18, 17, 28, 24, 23, 27, 26, 25, 37, 32, 31, 36, 35, 34,
                                                            33] },
                                                      { dst := some 88, op := Op.move (Operand.tmp 87), guard := none,
                                                        bef :=
                                                          [38, 30, 29, 22, 21, 6, 5, 1, 0, 4, 3, 2, 20, 8, 7, 19, 16, 15, 10, 9, 14, 13, 12, 11, 18, 17, 28, 24, 23, 27, 26, 25, 37, 32, 31, 36, 35, 34,
                                                            33] },
                                                      { dst := some 89, op := Op.fieldAddr 30 (Operand.tmp 8) 0, guard := some (some 88, false),
                                                        bef :=
                                                          [39, 38, 30, 29, 22, 21, 6, 5, 1, 0, 4, 3, 2, 20, 8, 7, 19, 16, 15, 10, 9, 14, 13, 12, 11, 18, 17, 28, 24, 23, 27, 26, 25, 37, 32, 31, 36, 35,
                                                            34, 33] },
                                                      { dst := some 90, op := Op.load 3 (Operand.tmp 89), guard := some (some 88, false),
                                                        bef :=
                                                          [40, 39, 38, 30, 29, 22, 21, 6, 5, 1, 0, 4, 3, 2, 20, 8, 7, 19, 16, 15, 10, 9, 14, 13, 12, 11, 18, 17, 28, 24, 23, 27, 26, 25, 37, 32, 31, 36,
                                                            35, 34, 33] },
                                                      { dst := some 91, op := Op.binOp BinOp.geq 3 (Operand.tmp 90) (Operand.const (Value.int IntKind.i64 (Int.ofNat 0))) 3,
                                                        guard := some (some 88, false),
                                                        bef :=
                                                          [41, 40, 39, 38, 30, 29, 22, 21, 6, 5, 1, 0, 4, 3, 2, 20, 8, 7, 19, 16, 15, 10, 9, 14, 13, 12, 11, 18, 17, 28, 24, 23, 27, 26, 25, 37, 32, 31,
                                                            36, 35, 34, 33] },
                                                      { dst := some 92, op := Op.move (Operand.tmp 91), guard := some (some 88, false),
                                                        bef :=
                                                          [42, 41, 40, 39, 38, 30, 29, 22, 21, 6, 5, 1, 0, 4, 3, 2, 20, 8, 7, 19, 16, 15, 10, 9, 14, 13, 12, 11, 18, 17, 28, 24, 23, 27, 26, 25, 37, 32,
                                                            31, 36, 35, 34, 33] },
                                                      { dst := some 93, op := Op.fieldAddr 30 (Operand.tmp 8) 0, guard := some (some 92, true),
                                                        bef :=
                                                          [43, 42, 41, 40, 39, 38, 30, 29, 22, 21, 6, 5, 1, 0, 4, 3, 2, 20, 8, 7, 19, 16, 15, 10, 9, 14, 13, 12, 11, 18, 17, 28, 24, 23, 27, 26, 25, 37,
                                                            32, 31, 36, 35, 34, 33] },
                                                      { dst := some 94, op := Op.load 3 (Operand.tmp 93), guard := some (some 92, true),
                                                        bef :=
                                                          [44, 43, 42, 41, 40, 39, 38, 30, 29, 22, 21, 6, 5, 1, 0, 4, 3, 2, 20, 8, 7, 19, 16, 15, 10, 9, 14, 13, 12, 11, 18, 17, 28, 24, 23, 27, 26, 25,
                                                            37, 32, 31, 36, 35, 34, 33] },
                                                      { dst := some 95, op := Op.binOp BinOp.leq 3 (Operand.tmp 94) (Operand.const (Value.int IntKind.i64 (Int.ofNat 4))) 3,
                                                        guard := some (some 92, true),
                                                        bef :=
                                                          [45, 44, 43, 42, 41, 40, 39, 38, 30, 29, 22, 21, 6, 5, 1, 0, 4, 3, 2, 20, 8, 7, 19, 16, 15, 10, 9, 14, 13, 12, 11, 18, 17, 28, 24, 23, 27, 26,
                                                            25, 37, 32, 31, 36, 35, 34, 33] },
                                                      { dst := some 96, op := Op.pick (Operand.tmp 92) (Operand.tmp 95) (Operand.const (Value.bool false)), guard := some (some 88, false),
                                                        bef :=
                                                          [43, 42, 41, 40, 39, 38, 30, 29, 22, 21, 6, 5, 1, 0, 4, 3, 2, 20, 8, 7, 19, 16, 15, 10, 9, 14, 13, 12, 11, 18, 17, 28, 24, 23, 27, 26, 25, 37,
                                                            32, 31, 36, 35, 34, 33, 46, 45, 44] },
                                                      { dst := some 97, op := Op.move (Operand.tmp 96), guard := some (some 88, false),
                                                        bef :=
                                                          [47, 43, 42, 41, 40, 39, 38, 30, 29, 22, 21, 6, 5, 1, 0, 4, 3, 2, 20, 8, 7, 19, 16, 15, 10, 9, 14, 13, 12, 11, 18, 17, 28, 24, 23, 27, 26, 25,
                                                            37, 32, 31, 36, 35, 34, 33, 46, 45, 44] },
                                                      { dst := some 98, op := Op.move (Operand.tmp 6), guard := some (some 97, true),
                                                        bef :=
                                                          [48, 47, 43, 42, 41, 40, 39, 38, 30, 29, 22, 21, 6, 5, 1, 0, 4, 3, 2, 20, 8, 7, 19, 16, 15, 10, 9, 14, 13, 12, 11, 18, 17, 28, 24, 23, 27, 26,
                                                            25, 37, 32, 31, 36, 35, 34, 33, 46, 45, 44] },
                                                      { dst := some 99, op := Op.load 26 (Operand.tmp 2), guard := some (some 97, true),
                                                        bef :=
                                                          [48, 47, 43, 42, 41, 40, 39, 38, 30, 29, 22, 21, 6, 5, 1, 0, 4, 3, 2, 20, 8, 7, 19, 16, 15, 10, 9, 14, 13, 12, 11, 18, 17, 28, 24, 23, 27, 26,
                                                            25, 37, 32, 31, 36, 35, 34, 33, 46, 45, 44] },
                                                      { dst := some 100,
                                                        op := Op.call { callee := Callee.value (Operand.func 17), args := { toList := [Operand.tmp 99] }, argTypes := { toList := [26] } },
                                                        guard := some (some 97, true),
                                                        bef :=
                                                          [50, 48, 47, 43, 42, 41, 40, 39, 38, 30, 29, 22, 21, 6, 5, 1, 0, 4, 3, 2, 20, 8, 7, 19, 16, 15, 10, 9, 14, 13, 12, 11, 18, 17, 28, 24, 23, 27,
                                                            26, 25, 37, 32, 31, 36, 35, 34, 33, 46, 45, 44] },
                                                      { dst := some 101, op := Op.binOp BinOp.geq 3 (Operand.tmp 98) (Operand.tmp 100) 3, guard := some (some 97, true),
                                                        bef :=
                                                          [49, 48, 47, 43, 42, 41, 40, 39, 38, 30, 29, 22, 21, 6, 5, 1, 0, 4, 3, 2, 20, 8, 7, 19, 16, 15, 10, 9, 14, 13, 12, 11, 18, 17, 28, 24, 23, 27,
                                                            26, 25, 37, 32, 31, 36, 35, 34, 33, 46, 45, 44, 51, 50] },
                                                      { dst := some 102, op := Op.pick (Operand.tmp 97) (Operand.tmp 101) (Operand.const (Value.bool false)), guard := some (some 88, false),
                                                        bef :=
                                                          [48, 47, 43, 42, 41, 40, 39, 38, 30, 29, 22, 21, 6, 5, 1, 0, 4, 3, 2, 20, 8, 7, 19, 16, 15, 10, 9, 14, 13, 12, 11, 18, 17, 28, 24, 23, 27, 26,
                                                            25, 37, 32, 31, 36, 35, 34, 33, 46, 45, 44, 52, 49, 51, 50] },
                                                      { dst := some 103, op := Op.move (Operand.tmp 102), guard := some (some 88, false),
                                                        bef :=
                                                          [53, 48, 47, 43, 42, 41, 40, 39, 38, 30, 29, 22, 21, 6, 5, 1, 0, 4, 3, 2, 20, 8, 7, 19, 16, 15, 10, 9, 14, 13, 12, 11, 18, 17, 28, 24, 23, 27,
                                                            26, 25, 37, 32, 31, 36, 35, 34, 33, 46, 45, 44, 52, 49, 51, 50] },
                                                      { dst := some 104, op := Op.fieldAddr 28 (Operand.tmp 5) 1, guard := some (some 103, true),
                                                        bef :=
                                                          [54, 53, 48, 47, 43, 42, 41, 40, 39, 38, 30, 29, 22, 21, 6, 5, 1, 0, 4, 3, 2, 20, 8, 7, 19, 16, 15, 10, 9, 14, 13, 12, 11, 18, 17, 28, 24, 23,
                                                            27, 26, 25, 37, 32, 31, 36, 35, 34, 33, 46, 45, 44, 52, 49, 51, 50] },
                                                      { dst := some 105, op := Op.load 3 (Operand.tmp 104), guard := some (some 103, true),
                                                        bef :=
                                                          [55, 54, 53, 48, 47, 43, 42, 41, 40, 39, 38, 30, 29, 22, 21, 6, 5, 1, 0, 4, 3, 2, 20, 8, 7, 19, 16, 15, 10, 9, 14, 13, 12, 11, 18, 17, 28, 24,
                                                            23, 27, 26, 25, 37, 32, 31, 36, 35, 34, 33, 46, 45, 44, 52, 49, 51, 50] },
                                                      { dst := some 106, op := Op.binOp BinOp.neq 3 (Operand.tmp 105) (Operand.const (Value.int IntKind.i64 (Int.ofNat 0))) 3,
                                                        guard := some (some 103, true),
                                                        bef :=
                                                          [56, 55, 54, 53, 48, 47, 43, 42, 41, 40, 39, 38, 30, 29, 22, 21, 6, 5, 1, 0, 4, 3, 2, 20, 8, 7, 19, 16, 15, 10, 9, 14, 13, 12, 11, 18, 17, 28,
                                                            24, 23, 27, 26, 25, 37, 32, 31, 36, 35, 34, 33, 46, 45, 44, 52, 49, 51, 50] },
                                                      { dst := some 107, op := Op.pick (Operand.tmp 103) (Operand.tmp 106) (Operand.const (Value.bool false)), guard := some (some 88, false),
                                                        bef :=
                                                          [54, 53, 48, 47, 43, 42, 41, 40, 39, 38, 30, 29, 22, 21, 6, 5, 1, 0, 4, 3, 2, 20, 8, 7, 19, 16, 15, 10, 9, 14, 13, 12, 11, 18, 17, 28, 24, 23,
                                                            27, 26, 25, 37, 32, 31, 36, 35, 34, 33, 46, 45, 44, 52, 49, 51, 50, 57, 56, 55] },
                                                      { dst := some 108, op := Op.pick (Operand.tmp 88) (Operand.const (Value.bool true)) (Operand.tmp 107), guard := none,
                                                        bef :=
                                                          [39, 38, 30, 29, 22, 21, 6, 5, 1, 0, 4, 3, 2, 20, 8, 7, 19, 16, 15, 10, 9, 14, 13, 12, 11, 18, 17, 28, 24, 23, 27, 26, 25, 37, 32, 31, 36, 35,
                                                            34, 33, 58, 54, 53, 48, 47, 43, 42, 41, 40, 46, 45, 44, 52, 49, 51, 50, 57, 56, 55] }]).seq
                                                (IC.cond (Operand.tmp 108) ((IC.ops [{ dst := some 4, op := Op.assign (Operand.const (Value.bool false)), guard := none }]).seq IC.ret) IC.skip)).seq
                                            ((IC.ops
                                                  [{ dst := some 109, op := Op.fieldAddr 30 (Operand.tmp 8) 0, guard := none }, { dst := some 110, op := Op.load 3 (Operand.tmp 109), guard := none },
                                                    { dst := some 111, op := Op.binOp BinOp.lss 3 (Operand.tmp 110) (Operand.const (Value.int IntKind.i64 (Int.ofNat 0))) 3, guard := none },
                                                    { dst := some 112, op := Op.move (Operand.tmp 111), guard := none },
                                                    { dst := some 113, op := Op.fieldAddr 30 (Operand.tmp 8) 0, guard := some (some 112, false) },
                                                    { dst := some 114, op := Op.load 3 (Operand.tmp 113), guard := some (some 112, false) },
                                                    { dst := some 115, op := Op.binOp BinOp.gtr 3 (Operand.tmp 114) (Operand.const (Value.int IntKind.i64 (Int.ofNat 4))) 3,
                                                      guard := some (some 112, false) },
                                                    { dst := some 116, op := Op.pick (Operand.tmp 112) (Operand.const (Value.bool true)) (Operand.tmp 115), guard := none }]).seq
                                              (IC.cond (Operand.tmp 116) (IC.ops [{ dst := some 6, op := Op.assign (Operand.const (Value.int IntKind.i64 (Int.ofNat 0))), guard := none }])
                                                IC.skip))))))))))).seq
                        (IC.ops
                          [{ dst := some 117, op := Op.binOp BinOp.add 3 (Operand.tmp 24) (Operand.const (Value.int IntKind.i64 (Int.ofNat 1))) 3, guard := none },
                            { dst := some 24, op := Op.move (Operand.tmp 117), guard := none }])))).loop)).seq
          ((IC.ops [{ dst := some 4, op := Op.assign (Operand.const (Value.bool true)), guard := none }]).seq IC.ret)))))
theorem ic8_eq : Try.f8.body.map comp = some ic8 := by kernel_rfl
theorem ic8_ok : Try.f8.body.map (okC Try.f8.ntmps) = some true := by kernel_rfl
theorem ic8_nm : (Try.f8.name != "runtime.NumGoroutine") = true := by kernel_rfl
@[simp] theorem ic8_n : Try.f8.ntmps = 118 := by kernel_rfl
@[simp] theorem ic8_r : Try.f8.results.toList = [ResultVar.tmp 4] := by kernel_rfl

def ic9 : IC :=
  (IC.ops [{ dst := some 5, op := Op.box 26 (Operand.tmp 0), guard := none }, { dst := some 10, op := Op.assign (Operand.const (Value.bool false)), guard := none }]).seq
  (((IC.ops
            [{ dst := some 15, op := Op.call { callee := Callee.value (Operand.func 10), args := { toList := [] }, argTypes := { toList := [] } }, guard := none },
              { dst := some 16, op := Op.unOp UnOp.not 4 (Operand.tmp 15), guard := none }, { dst := some 17, op := Op.move (Operand.tmp 16), guard := none },
              { dst := some 18, op := Op.load 26 (Operand.tmp 5), guard := some (some 17, false) },
              { dst := some 19, op := Op.call { callee := Callee.value (Operand.func 11), args := { toList := [Operand.tmp 18] }, argTypes := { toList := [26] } }, guard := some (some 17, false) },
              { dst := some 20, op := Op.unOp UnOp.not 4 (Operand.tmp 19), guard := some (some 17, false) },
              { dst := some 21, op := Op.pick (Operand.tmp 17) (Operand.const (Value.bool true)) (Operand.tmp 20), guard := none }, { dst := some 22, op := Op.move (Operand.tmp 21), guard := none },
              { dst := some 23, op := Op.move (Operand.tmp 3), guard := some (some 22, false) },
              { dst := some 24, op := Op.call { callee := Callee.builtin Builtin.len, args := { toList := [Operand.tmp 23] }, argTypes := { toList := [22] } }, guard := some (some 22, false) },
              { dst := some 25, op := Op.binOp BinOp.eql 3 (Operand.tmp 24) (Operand.const (Value.int IntKind.i64 (Int.ofNat 0))) 3, guard := some (some 22, false) },
              { dst := some 26, op := Op.pick (Operand.tmp 22) (Operand.const (Value.bool true)) (Operand.tmp 25), guard := none }, { dst := some 27, op := Op.move (Operand.tmp 26), guard := none },
              { dst := some 28, op := Op.move (Operand.tmp 4), guard := some (some 27, false) },
              { dst := some 29, op := Op.call { callee := Callee.builtin Builtin.len, args := { toList := [Operand.tmp 28] }, argTypes := { toList := [22] } }, guard := some (some 27, false) },
              { dst := some 30, op := Op.binOp BinOp.eql 3 (Operand.tmp 29) (Operand.const (Value.int IntKind.i64 (Int.ofNat 0))) 3, guard := some (some 27, false) },
              { dst := some 31, op := Op.pick (Operand.tmp 27) (Operand.const (Value.bool true)) (Operand.tmp 30), guard := none }, { dst := some 32, op := Op.move (Operand.tmp 31), guard := none },
              { dst := some 33, op := Op.move (Operand.tmp 3), guard := some (some 32, false) },
              { dst := some 34, op := Op.call { callee := Callee.builtin Builtin.len, args := { toList := [Operand.tmp 33] }, argTypes := { toList := [22] } }, guard := some (some 32, false) },
              { dst := some 35, op := Op.binOp BinOp.gtr 3 (Operand.tmp 34) (Operand.const (Value.int IntKind.i64 (Int.ofNat 50))) 3, guard := some (some 32, false) },
              { dst := some 36, op := Op.pick (Operand.tmp 32) (Operand.const (Value.bool true)) (Operand.tmp 35), guard := none }, { dst := some 37, op := Op.move (Operand.tmp 36), guard := none },
              { dst := some 38, op := Op.move (Operand.tmp 4), guard := some (some 37, false) },
              { dst := some 39, op := Op.call { callee := Callee.builtin Builtin.len, args := { toList := [Operand.tmp 38] }, argTypes := { toList := [22] } }, guard := some (some 37, false) },
              { dst := some 40, op := Op.binOp BinOp.gtr 3 (Operand.tmp 39) (Operand.const (Value.int IntKind.i64 (Int.ofNat 50))) 3, guard := some (some 37, false) },
              { dst := some 41, op := Op.pick (Operand.tmp 37) (Operand.const (Value.bool true)) (Operand.tmp 40), guard := none }]).seq
        (IC.cond (Operand.tmp 41)
          ((IC.ops
                [{ dst := some 42, op := Op.call { callee := Callee.value (Operand.func 10), args := { toList := [] }, argTypes := { toList := [] } }, guard := none },
                  { dst := some 10, op := Op.assign (Operand.tmp 42), guard := none }]).seq
            IC.ret)
          IC.skip)).seq
    ((IC.opsD
          [{ dst := some 43, op := Op.fieldAddr 26 (Operand.tmp 5) 0, guard := none }, { dst := some 44, op := Op.load 22 (Operand.tmp 43), guard := none, bef := [0] },
            { dst := some 45, op := Op.move (Operand.tmp 1), guard := none }, { dst := some 46, op := Op.convert 5 3 (Operand.tmp 45), guard := none, bef := [2] },
            { dst := some 47, op := Op.fieldAddr 26 (Operand.tmp 5) 0, guard := none }, { dst := some 48, op := Op.load 22 (Operand.tmp 47), guard := none, bef := [4] },
            { dst := some 49, op := Op.call { callee := Callee.builtin Builtin.len, args := { toList := [Operand.tmp 48] }, argTypes := { toList := [22] } }, guard := none, bef := [5, 4] },
            { dst := some 50, op := Op.binOp BinOp.rem 3 (Operand.tmp 46) (Operand.tmp 49) 3, guard := none, bef := [3, 2, 6, 5, 4] },
            { dst := some 51, op := Op.indexAddr 22 (Operand.tmp 44) (Operand.tmp 50), guard := none, bef := [1, 0, 7, 3, 2, 6, 5, 4] },
            { dst := some 52, op := Op.load 3 (Operand.tmp 51), guard := none, bef := [8, 1, 0, 7, 3, 2, 6, 5, 4] },
            { dst := some 11, op := Op.assign (Operand.tmp 52), guard := none, bef := [9, 8, 1, 0, 7, 3, 2, 6, 5, 4] }]).seq
      ((IC.ops
            [{ dst := some 53, op := Op.move (Operand.tmp 11), guard := none }, { dst := some 54, op := Op.move (Operand.tmp 2), guard := none },
              { dst := some 55, op := Op.fieldAddr 26 (Operand.tmp 5) 3, guard := none }, { dst := some 56, op := Op.load 3 (Operand.tmp 55), guard := none },
              { dst := some 57,
                op :=
                  Op.call
                    { callee := Callee.value (Operand.func 18), args := { toList := [Operand.tmp 54, Operand.const (Value.int IntKind.i64 (Int.ofNat 0)), Operand.tmp 56] },
                      argTypes := { toList := [3, 3, 3] } },
                guard := none },
              { dst := some 58, op := Op.binOp BinOp.sub 3 (Operand.tmp 53) (Operand.tmp 57) 3, guard := none },
              { dst := some 59, op := Op.build 28 { toList := [(0, Operand.tmp 58)] }, guard := none }, { dst := some 12, op := Op.alloc 28, guard := none },
              { dst := none, op := Op.store 28 (Operand.tmp 12) (Operand.tmp 59), guard := none }]).seq
        (((IC.opsD
                  [{ dst := some 60, op := Op.load 26 (Operand.tmp 5), guard := none },
                    { dst := some 61, op := Op.call { callee := Callee.value (Operand.func 19), args := { toList := [Operand.tmp 60] }, argTypes := { toList := [26] } }, guard := none, bef := [0] },
                    { dst := some 62, op := Op.fieldAddr 26 (Operand.tmp 5) 13, guard := none }, { dst := some 63, op := Op.load 3 (Operand.tmp 62), guard := none, bef := [2] },
                    { dst := some 64, op := Op.binOp BinOp.sub 3 (Operand.tmp 61) (Operand.tmp 63) 3, guard := none, bef := [1, 0, 3, 2] },
                    { dst := some 65,
                      op :=
                        Op.call
                          { callee := Callee.builtin Builtin.min, args := { toList := [Operand.const (Value.int IntKind.i64 (Int.ofNat 5000)), Operand.tmp 64] }, argTypes := { toList := [3, 3] } },
                      guard := none, bef := [4, 1, 0, 3, 2] },
                    { dst := some 66, op := Op.move (Operand.const (Value.int IntKind.i64 (Int.ofNat 0))), guard := none }]).seq
              (IC.block 0
                ((IC.ops [{ dst := some 67, op := Op.binOp BinOp.lss 3 (Operand.tmp 66) (Operand.tmp 65) 3, guard := none }]).seq
                    ((IC.cond (Operand.tmp 67) IC.skip (IC.exit 0)).seq
                      ((IC.block 1
                            ((IC.ops [{ dst := some 68, op := Op.move (Operand.tmp 66), guard := none }, { dst := some 13, op := Op.assign (Operand.tmp 68), guard := none }]).seq
                              (((IC.ops
                                        [{ dst := some 69, op := Op.fieldAddr 28 (Operand.tmp 12) 0, guard := none }, { dst := some 70, op := Op.load 3 (Operand.tmp 69), guard := none },
                                          { dst := some 71, op := Op.move (Operand.tmp 11), guard := none },
                                          { dst := some 72, op := Op.binOp BinOp.geq 3 (Operand.tmp 70) (Operand.tmp 71) 3, guard := none }]).seq
                                    (IC.cond (Operand.tmp 72) ((IC.ops [{ dst := some 10, op := Op.assign (Operand.const (Value.bool true)), guard := none }]).seq IC.ret) IC.skip)).seq
                                ((IC.opsD
                                      [{ dst := some 73, op := Op.move (Operand.tmp 3), guard := none }, { dst := some 74, op := Op.move (Operand.tmp 13), guard := none },
                                        { dst := some 75, op := Op.move (Operand.tmp 3), guard := none },
                                        { dst := some 76, op := Op.call { callee := Callee.builtin Builtin.len, args := { toList := [Operand.tmp 75] }, argTypes := { toList := [22] } }, guard := none,
                                          bef := [2] },
                                        { dst := some 77, op := Op.binOp BinOp.rem 3 (Operand.tmp 74) (Operand.tmp 76) 3, guard := none, bef := [1, 3, 2] },
                                        { dst := some 78, op := Op.indexAddr 22 (Operand.tmp 73) (Operand.tmp 77), guard := none, bef := [0, 4, 1, 3, 2] },
                                        { dst := some 79, op := Op.load 3 (Operand.tmp 78), guard := none, bef := [5, 0, 4, 1, 3, 2] },
                                        { dst := some 80, op := Op.move (Operand.tmp 4), guard := none }, { dst := some 81, op := Op.move (Operand.tmp 13), guard := none },
                                        { dst := some 82, op := Op.move (Operand.tmp 4), guard := none },
                                        { dst := some 83, op := Op.call { callee := Callee.builtin Builtin.len, args := { toList := [Operand.tmp 82] }, argTypes := { toList := [22] } }, guard := none,
                                          bef := [9] },
                                        { dst := some 84, op := Op.binOp BinOp.rem 3 (Operand.tmp 81) (Operand.tmp 83) 3, guard := none, bef := [8, 10, 9] },
                                        { dst := some 85, op := Op.indexAddr 22 (Operand.tmp 80) (Operand.tmp 84), guard := none, bef := [7, 11, 8, 10, 9] },
                                        { dst := some 86, op := Op.load 3 (Operand.tmp 85), guard := none, bef := [12, 7, 11, 8, 10, 9] },
                                        { dst := some 87,
                                          op :=
                                            Op.build 30
                                              { toList := [(0, Operand.const (Value.int IntKind.i64 (Int.ofNat 1))), (1, Operand.const (Value.bool true)), (2, Operand.tmp 79), (3, Operand.tmp 86)] },
                                          guard := none, bef := [6, 5, 0, 4, 1, 3, 2, 13, 12, 7, 11, 8, 10, 9] },
                                        { dst := some 14, op := Op.alloc 30, guard := none },
                                        { dst := none, op := Op.store 30 (Operand.tmp 14) (Operand.tmp 87), guard := none, bef := [15, 14, 6, 5, 0, 4, 1, 3, 2, 13, 12, 7, 11, 8, 10, 9] }]).seq
                                  (((IC.ops
                                            [{ dst := some 88, op := Op.load 28 (Operand.tmp 12), guard := none }, { dst := some 89, op := Op.load 30 (Operand.tmp 14), guard := none },
                                              { dst := some 90,
                                                op := Op.call { callee := Callee.value (Operand.func 12), args := { toList := [Operand.tmp 88, Operand.tmp 89] }, argTypes := { toList := [28, 30] } },
                                                guard := none },
                                              { dst := some 91, op := Op.unOp UnOp.not 4 (Operand.tmp 90), guard := none }]).seq
                                        (IC.cond (Operand.tmp 91) ((IC.ops [{ dst := some 10, op := Op.assign (Operand.const (Value.bool true)), guard := none }]).seq IC.ret) IC.skip)).seq
                                    (IC.ops
                                      [{ dst := some 92, op := Op.load 26 (Operand.tmp 5), guard := none }, { dst := some 93, op := Op.load 28 (Operand.tmp 12), guard := none },
                                        { dst := some 94, op := Op.load 30 (Operand.tmp 14), guard := none },
                                        { dst := some 95,
                                          op :=
                                            Op.call
                                              { callee := Callee.value (Operand.func 13), args := { toList := [Operand.tmp 92, Operand.tmp 93, Operand.tmp 94] },
                                                argTypes := { toList := [26, 28, 35] } },
                                          guard := none },
                                        { dst := none, op := Op.store 28 (Operand.tmp 12) (Operand.tmp 95), guard := none }])))))).seq
                        (IC.ops
                          [{ dst := some 96, op := Op.binOp BinOp.add 3 (Operand.tmp 66) (Operand.const (Value.int IntKind.i64 (Int.ofNat 1))) 3, guard := none },
                            { dst := some 66, op := Op.move (Operand.tmp 96), guard := none }])))).loop)).seq
          ((IC.opsD
                [{ dst := some 97, op := Op.fieldAddr 28 (Operand.tmp 12) 0, guard := none }, { dst := some 98, op := Op.load 3 (Operand.tmp 97), guard := none, bef := [0] },
                  { dst := some 99, op := Op.move (Operand.tmp 11), guard := none },
                  { dst := some 100, op := Op.binOp BinOp.geq 3 (Operand.tmp 98) (Operand.tmp 99) 3, guard := none, bef := [1, 0, 2] },
                  { dst := some 101, op := Op.move (Operand.tmp 100), guard := none, bef := [3, 1, 0, 2] },
                  { dst := some 102, op := Op.load 26 (Operand.tmp 5), guard := some (some 101, false), bef := [4, 3, 1, 0, 2] },
                  { dst := some 103, op := Op.call { callee := Callee.value (Operand.func 19), args := { toList := [Operand.tmp 102] }, argTypes := { toList := [26] } },
                    guard := some (some 101, false), bef := [5, 4, 3, 1, 0, 2] },
                  { dst := some 104, op := Op.fieldAddr 26 (Operand.tmp 5) 13, guard := some (some 101, false), bef := [4, 3, 1, 0, 2] },
                  { dst := some 105, op := Op.load 3 (Operand.tmp 104), guard := some (some 101, false), bef := [7, 4, 3, 1, 0, 2] },
                  { dst := some 106, op := Op.binOp BinOp.sub 3 (Operand.tmp 103) (Operand.tmp 105) 3, guard := some (some 101, false), bef := [6, 5, 4, 3, 1, 0, 2, 8, 7] },
                  { dst := some 107, op := Op.binOp BinOp.gtr 3 (Operand.tmp 106) (Operand.const (Value.int IntKind.i64 (Int.ofNat 5000))) 3, guard := some (some 101, false),
                    bef := [9, 6, 5, 4, 3, 1, 0, 2, 8, 7] },
                  { dst := some 108, op := Op.pick (Operand.tmp 101) (Operand.const (Value.bool true)) (Operand.tmp 107), guard := none, bef := [4, 3, 1, 0, 2, 10, 9, 6, 5, 8, 7] },
                  { dst := some 10, op := Op.assign (Operand.tmp 108), guard := none, bef := [11, 4, 3, 1, 0, 2, 10, 9, 6, 5, 8, 7] }]).seq
            IC.ret)))))
theorem ic9_eq : Try.f9.body.map comp = some ic9 := by kernel_rfl
theorem ic9_ok : Try.f9.body.map (okC Try.f9.ntmps) = some true := by kernel_rfl
theorem ic9_nm : (Try.f9.name != "runtime.NumGoroutine") = true := by kernel_rfl
@[simp] theorem ic9_n : Try.f9.ntmps = 109 := by kernel_rfl
@[simp] theorem ic9_r : Try.f9.results.toList = [ResultVar.tmp 10] := by kernel_rfl

def ic10 : IC :=
  (IC.ops [{ dst := some 0, op := Op.assign (Operand.const (Value.bool false)), guard := none }]).seq
  ((IC.ops
        [{ dst := some 3, op := Op.build 51 { toList := [(1, Operand.const (Value.int IntKind.u8 (Int.ofNat 6)))] }, guard := none },
          { dst := some 4, op := Op.call { callee := Callee.value (Operand.func 20), args := { toList := [Operand.tmp 3] }, argTypes := { toList := [51] } }, guard := none },
          { dst := some 1, op := Op.alloc 26, guard := none }, { dst := none, op := Op.store 26 (Operand.tmp 1) (Operand.tmp 4), guard := none }]).seq
    ((IC.ops
          [{ dst := some 5, op := Op.load 26 (Operand.tmp 1), guard := none }, { dst := some 6, op := Op.build 28 { toList := [] }, guard := none },
            { dst := some 7,
              op :=
                Op.build 35 { toList := [(0, Operand.const (Value.int IntKind.i64 (Int.ofNat 1))), (1, Operand.const (Value.bool true)), (2, Operand.const (Value.int IntKind.i64 (Int.ofNat 99)))] },
              guard := none },
            { dst := some 8, op := Op.call { callee := Callee.value (Operand.func 13), args := { toList := [Operand.tmp 5, Operand.tmp 6, Operand.tmp 7] }, argTypes := { toList := [26, 28, 35] } },
              guard := none },
            { dst := some 2, op := Op.alloc 28, guard := none }, { dst := none, op := Op.store 28 (Operand.tmp 2) (Operand.tmp 8), guard := none }]).seq
      ((IC.ops
            [{ dst := some 9, op := Op.load 26 (Operand.tmp 1), guard := none },
              { dst := some 10, op := Op.build 35 { toList := [(0, Operand.const (Value.int IntKind.i64 (Int.ofNat 3))), (1, Operand.const (Value.bool true))] }, guard := none },
              { dst := some 11, op := Op.call { callee := Callee.value (Operand.func 15), args := { toList := [Operand.tmp 9, Operand.tmp 10] }, argTypes := { toList := [26, 35] } }, guard := none },
              { dst := some 12, op := Op.binOp BinOp.eql 3 (Operand.tmp 11) (Operand.const (Value.int IntKind.i64 (Int.negSucc 7))) 3, guard := none },
              { dst := some 13, op := Op.move (Operand.tmp 12), guard := none }, { dst := some 14, op := Op.load 28 (Operand.tmp 2), guard := some (some 13, true) },
              { dst := some 15, op := Op.build 28 { toList := [(0, Operand.const (Value.int IntKind.i64 (Int.ofNat 1))), (1, Operand.const (Value.int IntKind.i64 (Int.ofNat 1)))] },
                guard := some (some 13, true) },
              { dst := some 16, op := Op.binOp BinOp.eql 28 (Operand.tmp 14) (Operand.tmp 15) 28, guard := some (some 13, true) },
              { dst := some 17, op := Op.pick (Operand.tmp 13) (Operand.tmp 16) (Operand.const (Value.bool false)), guard := none },
              { dst := some 0, op := Op.assign (Operand.tmp 17), guard := none }]).seq
        IC.ret)))
theorem ic10_eq : Try.f10.body.map comp = some ic10 := by kernel_rfl
theorem ic10_ok : Try.f10.body.map (okC Try.f10.ntmps) = some true := by kernel_rfl
theorem ic10_nm : (Try.f10.name != "runtime.NumGoroutine") = true := by kernel_rfl
@[simp] theorem ic10_n : Try.f10.ntmps = 18 := by kernel_rfl
@[simp] theorem ic10_r : Try.f10.results.toList = [ResultVar.tmp 0] := by kernel_rfl

def ic11 : IC :=
  (IC.ops [{ dst := some 1, op := Op.box 26 (Operand.tmp 0), guard := none }, { dst := some 2, op := Op.assign (Operand.const (Value.bool false)), guard := none }]).seq
  ((IC.ops
        [{ dst := some 3, op := Op.load 26 (Operand.tmp 1), guard := none },
          { dst := some 4, op := Op.call { callee := Callee.value (Operand.func 21), args := { toList := [Operand.tmp 3] }, argTypes := { toList := [26] } }, guard := none },
          { dst := some 5, op := Op.move (Operand.tmp 4), guard := none }, { dst := some 6, op := Op.load 26 (Operand.tmp 1), guard := some (some 5, true) },
          { dst := some 7, op := Op.call { callee := Callee.value (Operand.func 22), args := { toList := [Operand.tmp 6] }, argTypes := { toList := [26] } }, guard := some (some 5, true) },
          { dst := some 8, op := Op.binOp BinOp.eql 9 (Operand.tmp 7) (Operand.const (Value.string { data := { toList := [] } })) 9, guard := some (some 5, true) },
          { dst := some 9, op := Op.pick (Operand.tmp 5) (Operand.tmp 8) (Operand.const (Value.bool false)), guard := none }, { dst := some 2, op := Op.assign (Operand.tmp 9), guard := none }]).seq
    IC.ret)
theorem ic11_eq : Try.f11.body.map comp = some ic11 := by kernel_rfl
theorem ic11_ok : Try.f11.body.map (okC Try.f11.ntmps) = some true := by kernel_rfl
theorem ic11_nm : (Try.f11.name != "runtime.NumGoroutine") = true := by kernel_rfl
@[simp] theorem ic11_n : Try.f11.ntmps = 10 := by kernel_rfl
@[simp] theorem ic11_r : Try.f11.results.toList = [ResultVar.tmp 2] := by kernel_rfl

def ic12 : IC :=
  (IC.ops
      [{ dst := some 2, op := Op.box 28 (Operand.tmp 0), guard := none }, { dst := some 3, op := Op.box 30 (Operand.tmp 1), guard := none },
        { dst := some 4, op := Op.assign (Operand.const (Value.bool false)), guard := none }]).seq
  ((IC.ops
        [{ dst := some 5, op := Op.fieldAddr 28 (Operand.tmp 2) 0, guard := none }, { dst := some 6, op := Op.load 3 (Operand.tmp 5), guard := none },
          { dst := some 7, op := Op.call { callee := Callee.value (Operand.func 23), args := { toList := [Operand.tmp 6] }, argTypes := { toList := [3] } }, guard := none },
          { dst := some 8, op := Op.move (Operand.tmp 7), guard := none }, { dst := some 9, op := Op.fieldAddr 28 (Operand.tmp 2) 1, guard := some (some 8, true) },
          { dst := some 10, op := Op.load 3 (Operand.tmp 9), guard := some (some 8, true) },
          { dst := some 11, op := Op.call { callee := Callee.value (Operand.func 23), args := { toList := [Operand.tmp 10] }, argTypes := { toList := [3] } }, guard := some (some 8, true) },
          { dst := some 12, op := Op.pick (Operand.tmp 8) (Operand.tmp 11) (Operand.const (Value.bool false)), guard := none }, { dst := some 13, op := Op.move (Operand.tmp 12), guard := none },
          { dst := some 14, op := Op.fieldAddr 30 (Operand.tmp 3) 2, guard := some (some 13, true) }, { dst := some 15, op := Op.load 3 (Operand.tmp 14), guard := some (some 13, true) },
          { dst := some 16, op := Op.call { callee := Callee.value (Operand.func 23), args := { toList := [Operand.tmp 15] }, argTypes := { toList := [3] } }, guard := some (some 13, true) },
          { dst := some 17, op := Op.pick (Operand.tmp 13) (Operand.tmp 16) (Operand.const (Value.bool false)), guard := none }, { dst := some 18, op := Op.move (Operand.tmp 17), guard := none },
          { dst := some 19, op := Op.fieldAddr 30 (Operand.tmp 3) 3, guard := some (some 18, true) }, { dst := some 20, op := Op.load 3 (Operand.tmp 19), guard := some (some 18, true) },
          { dst := some 21, op := Op.call { callee := Callee.value (Operand.func 23), args := { toList := [Operand.tmp 20] }, argTypes := { toList := [3] } }, guard := some (some 18, true) },
          { dst := some 22, op := Op.pick (Operand.tmp 18) (Operand.tmp 21) (Operand.const (Value.bool false)), guard := none }, { dst := some 23, op := Op.move (Operand.tmp 22), guard := none },
          { dst := some 24, op := Op.fieldAddr 30 (Operand.tmp 3) 5, guard := some (some 23, true) }, { dst := some 25, op := Op.load 3 (Operand.tmp 24), guard := some (some 23, true) },
          { dst := some 26, op := Op.call { callee := Callee.value (Operand.func 23), args := { toList := [Operand.tmp 25] }, argTypes := { toList := [3] } }, guard := some (some 23, true) },
          { dst := some 27, op := Op.pick (Operand.tmp 23) (Operand.tmp 26) (Operand.const (Value.bool false)), guard := none },
          { dst := some 4, op := Op.assign (Operand.tmp 27), guard := none }]).seq
    IC.ret)
theorem ic12_eq : Try.f12.body.map comp = some ic12 := by kernel_rfl
theorem ic12_ok : Try.f12.body.map (okC Try.f12.ntmps) = some true := by kernel_rfl
theorem ic12_nm : (Try.f12.name != "runtime.NumGoroutine") = true := by kernel_rfl
@[simp] theorem ic12_n : Try.f12.ntmps = 28 := by kernel_rfl
@[simp] theorem ic12_r : Try.f12.results.toList = [ResultVar.tmp 4] := by kernel_rfl

def ic13 : IC :=
  (IC.ops
      [{ dst := some 3, op := Op.box 26 (Operand.tmp 0), guard := none }, { dst := some 4, op := Op.box 28 (Operand.tmp 1), guard := none },
        { dst := some 5, op := Op.box 35 (Operand.tmp 2), guard := none }, { dst := some 6, op := Op.alloc 28, guard := none }]).seq
  ((IC.opsD
        [{ dst := some 8, op := Op.fieldAddr 28 (Operand.tmp 4) 1, guard := none }, { dst := some 9, op := Op.load 3 (Operand.tmp 8), guard := none, bef := [0] },
          { dst := some 10, op := Op.load 26 (Operand.tmp 3), guard := none }, { dst := some 11, op := Op.load 35 (Operand.tmp 5), guard := none },
          { dst := some 12, op := Op.call { callee := Callee.value (Operand.func 15), args := { toList := [Operand.tmp 10, Operand.tmp 11] }, argTypes := { toList := [26, 35] } }, guard := none,
            bef := [2, 3] },
          { dst := some 13, op := Op.fieldAddr 26 (Operand.tmp 3) 10, guard := none }, { dst := some 14, op := Op.load 3 (Operand.tmp 13), guard := none, bef := [5] },
          { dst := some 15, op := Op.call { callee := Callee.value (Operand.func 24), args := { toList := [Operand.tmp 9, Operand.tmp 12, Operand.tmp 14] }, argTypes := { toList := [3, 3, 3] } },
            guard := none, bef := [1, 0, 4, 2, 3, 6, 5] },
          { dst := some 16, op := Op.fieldAddr 28 (Operand.tmp 4) 1, guard := none, bef := [0, 1, 2, 3, 4, 5, 6, 7] },
          { dst := none, op := Op.store 3 (Operand.tmp 16) (Operand.tmp 15), guard := none, bef := [8, 0, 1, 2, 3, 4, 5, 6, 7] }]).seq
    ((IC.opsD
          [{ dst := some 17, op := Op.fieldAddr 28 (Operand.tmp 4) 0, guard := none }, { dst := some 18, op := Op.load 3 (Operand.tmp 17), guard := none, bef := [0] },
            { dst := some 19, op := Op.fieldAddr 28 (Operand.tmp 4) 1, guard := none }, { dst := some 20, op := Op.load 3 (Operand.tmp 19), guard := none, bef := [2] },
            { dst := some 21, op := Op.fieldAddr 35 (Operand.tmp 5) 3, guard := none }, { dst := some 22, op := Op.load 3 (Operand.tmp 21), guard := none, bef := [4] },
            { dst := some 23, op := Op.fieldAddr 26 (Operand.tmp 3) 9, guard := none }, { dst := some 24, op := Op.load 3 (Operand.tmp 23), guard := none, bef := [6] },
            { dst := some 25,
              op :=
                Op.call
                  { callee := Callee.value (Operand.func 18), args := { toList := [Operand.tmp 22, Operand.const (Value.int IntKind.i64 (Int.ofNat 0)), Operand.tmp 24] },
                    argTypes := { toList := [3, 3, 3] } },
              guard := none, bef := [5, 4, 7, 6] },
            { dst := some 26, op := Op.binOp BinOp.sub 3 (Operand.tmp 20) (Operand.tmp 25) 3, guard := none, bef := [3, 2, 8, 5, 4, 7, 6] },
            { dst := some 27, op := Op.binOp BinOp.add 3 (Operand.tmp 18) (Operand.tmp 26) 3, guard := none, bef := [1, 0, 9, 3, 2, 8, 5, 4, 7, 6] },
            { dst := some 28, op := Op.fieldAddr 28 (Operand.tmp 4) 0, guard := none, bef := [0, 1, 2, 3, 4, 5, 6, 7, 8, 9, 10] },
            { dst := none, op := Op.store 3 (Operand.tmp 28) (Operand.tmp 27), guard := none, bef := [11, 0, 1, 2, 3, 4, 5, 6, 7, 8, 9, 10] }]).seq
      (((IC.ops
                [{ dst := some 29, op := Op.fieldAddr 35 (Operand.tmp 5) 5, guard := none }, { dst := some 30, op := Op.load 3 (Operand.tmp 29), guard := none },
                  { dst := some 31, op := Op.fieldAddr 26 (Operand.tmp 3) 2, guard := none }, { dst := some 32, op := Op.load 3 (Operand.tmp 31), guard := none },
                  { dst := some 33, op := Op.binOp BinOp.sub 3 (Operand.tmp 30) (Operand.tmp 32) 3, guard := none }, { dst := some 7, op := Op.assign (Operand.tmp 33), guard := none }]).seq
            ((IC.ops
                  [{ dst := some 34, op := Op.fieldAddr 35 (Operand.tmp 5) 4, guard := none }, { dst := some 35, op := Op.load 4 (Operand.tmp 34), guard := none },
                    { dst := some 36, op := Op.move (Operand.tmp 35), guard := none }, { dst := some 37, op := Op.fieldAddr 28 (Operand.tmp 4) 0, guard := some (some 36, true) },
                    { dst := some 38, op := Op.load 3 (Operand.tmp 37), guard := some (some 36, true) }, { dst := some 39, op := Op.move (Operand.tmp 7), guard := some (some 36, true) },
                    { dst := some 40, op := Op.binOp BinOp.lss 3 (Operand.tmp 38) (Operand.tmp 39) 3, guard := some (some 36, true) },
                    { dst := some 41, op := Op.pick (Operand.tmp 36) (Operand.tmp 40) (Operand.const (Value.bool false)), guard := none }]).seq
              (IC.cond (Operand.tmp 41)
                (IC.ops
                  [{ dst := some 42, op := Op.move (Operand.tmp 7), guard := none }, { dst := some 43, op := Op.fieldAddr 28 (Operand.tmp 4) 1, guard := none },
                    { dst := some 44, op := Op.load 3 (Operand.tmp 43), guard := none },
                    { dst := some 45,
                      op :=
                        Op.call { callee := Callee.builtin Builtin.max, args := { toList := [Operand.const (Value.int IntKind.i64 (Int.ofNat 0)), Operand.tmp 44] }, argTypes := { toList := [3, 3] } },
                      guard := none },
                    { dst := some 46, op := Op.build 28 { toList := [(0, Operand.tmp 42), (1, Operand.tmp 45)] }, guard := none },
                    { dst := none, op := Op.store 28 (Operand.tmp 4) (Operand.tmp 46), guard := none }])
                IC.skip))).seq
        ((IC.ops
              [{ dst := some 47, op := Op.load 26 (Operand.tmp 3), guard := none }, { dst := some 48, op := Op.load 28 (Operand.tmp 4), guard := none },
                { dst := some 49, op := Op.call { callee := Callee.value (Operand.func 25), args := { toList := [Operand.tmp 47, Operand.tmp 48] }, argTypes := { toList := [26, 28] } },
                  guard := none },
                { dst := none, op := Op.store 28 (Operand.tmp 6) (Operand.tmp 49), guard := none }]).seq
          IC.ret))))
theorem ic13_eq : Try.f13.body.map comp = some ic13 := by kernel_rfl
theorem ic13_ok : Try.f13.body.map (okC Try.f13.ntmps) = some true := by kernel_rfl
theorem ic13_nm : (Try.f13.name != "runtime.NumGoroutine") = true := by kernel_rfl
@[simp] theorem ic13_n : Try.f13.ntmps = 50 := by kernel_rfl
@[simp] theorem ic13_r : Try.f13.results.toList = [ResultVar.cell 6 28] := by kernel_rfl

def ic14 : IC :=
  (IC.ops
      [{ dst := some 3, op := Op.box 26 (Operand.tmp 0), guard := none }, { dst := some 4, op := Op.box 28 (Operand.tmp 1), guard := none },
        { dst := some 5, op := Op.box 30 (Operand.tmp 2), guard := none }, { dst := some 6, op := Op.alloc 28, guard := none }]).seq
  ((IC.opsD
        [{ dst := some 11, op := Op.fieldAddr 28 (Operand.tmp 4) 1, guard := none }, { dst := some 12, op := Op.load 3 (Operand.tmp 11), guard := none, bef := [0] },
          { dst := some 13, op := Op.load 26 (Operand.tmp 3), guard := none }, { dst := some 14, op := Op.load 30 (Operand.tmp 5), guard := none },
          { dst := some 15, op := Op.call { callee := Callee.value (Operand.func 16), args := { toList := [Operand.tmp 13, Operand.tmp 14] }, argTypes := { toList := [26, 30] } }, guard := none,
            bef := [2, 3] },
          { dst := some 16, op := Op.fieldAddr 26 (Operand.tmp 3) 10, guard := none }, { dst := some 17, op := Op.load 3 (Operand.tmp 16), guard := none, bef := [5] },
          { dst := some 18, op := Op.call { callee := Callee.value (Operand.func 26), args := { toList := [Operand.tmp 12, Operand.tmp 15, Operand.tmp 17] }, argTypes := { toList := [3, 3, 3] } },
            guard := none, bef := [1, 0, 4, 2, 3, 6, 5] },
          { dst := some 7, op := Op.assign (Operand.tmp 18), guard := none, bef := [7, 1, 0, 4, 2, 3, 6, 5] }]).seq
    ((IC.opsD
          [{ dst := some 19, op := Op.fieldAddr 28 (Operand.tmp 4) 0, guard := none }, { dst := some 20, op := Op.load 3 (Operand.tmp 19), guard := none, bef := [0] },
            { dst := some 21, op := Op.move (Operand.tmp 7), guard := none }, { dst := some 22, op := Op.binOp BinOp.add 3 (Operand.tmp 20) (Operand.tmp 21) 3, guard := none, bef := [1, 0, 2] },
            { dst := some 23, op := Op.fieldAddr 30 (Operand.tmp 5) 3, guard := none }, { dst := some 24, op := Op.load 3 (Operand.tmp 23), guard := none, bef := [4] },
            { dst := some 25, op := Op.fieldAddr 26 (Operand.tmp 3) 9, guard := none }, { dst := some 26, op := Op.load 3 (Operand.tmp 25), guard := none, bef := [6] },
            { dst := some 27,
              op :=
                Op.call
                  { callee := Callee.value (Operand.func 27), args := { toList := [Operand.tmp 24, Operand.const (Value.int IntKind.i64 (Int.ofNat 0)), Operand.tmp 26] },
                    argTypes := { toList := [3, 3, 3] } },
              guard := none, bef := [5, 4, 7, 6] },
            { dst := some 28, op := Op.binOp BinOp.sub 3 (Operand.tmp 22) (Operand.tmp 27) 3, guard := none, bef := [3, 1, 0, 2, 8, 5, 4, 7, 6] },
            { dst := some 8, op := Op.assign (Operand.tmp 28), guard := none, bef := [9, 3, 1, 0, 2, 8, 5, 4, 7, 6] }]).seq
      (((IC.ops
                [{ dst := some 29, op := Op.fieldAddr 30 (Operand.tmp 5) 4, guard := none }, { dst := some 30, op := Op.load 4 (Operand.tmp 29), guard := none },
                  { dst := some 31, op := Op.move (Operand.tmp 30), guard := none }, { dst := some 32, op := Op.move (Operand.tmp 8), guard := some (some 31, true) },
                  { dst := some 33, op := Op.fieldAddr 30 (Operand.tmp 5) 5, guard := some (some 31, true) }, { dst := some 34, op := Op.load 3 (Operand.tmp 33), guard := some (some 31, true) },
                  { dst := some 35, op := Op.fieldAddr 26 (Operand.tmp 3) 2, guard := some (some 31, true) }, { dst := some 36, op := Op.load 3 (Operand.tmp 35), guard := some (some 31, true) },
                  { dst := some 37, op := Op.binOp BinOp.sub 3 (Operand.tmp 34) (Operand.tmp 36) 3, guard := some (some 31, true) },
                  { dst := some 38, op := Op.binOp BinOp.lss 3 (Operand.tmp 32) (Operand.tmp 37) 3, guard := some (some 31, true) },
                  { dst := some 39, op := Op.pick (Operand.tmp 31) (Operand.tmp 38) (Operand.const (Value.bool false)), guard := none }]).seq
            (IC.cond (Operand.tmp 39)
              ((IC.ops
                    [{ dst := some 40, op := Op.fieldAddr 30 (Operand.tmp 5) 5, guard := none }, { dst := some 41, op := Op.load 3 (Operand.tmp 40), guard := none },
                      { dst := some 42, op := Op.fieldAddr 26 (Operand.tmp 3) 2, guard := none }, { dst := some 43, op := Op.load 3 (Operand.tmp 42), guard := none },
                      { dst := some 44, op := Op.binOp BinOp.sub 3 (Operand.tmp 41) (Operand.tmp 43) 3, guard := none }, { dst := some 8, op := Op.assign (Operand.tmp 44), guard := none }]).seq
                (IC.ops
                  [{ dst := some 45, op := Op.move (Operand.tmp 7), guard := none },
                    { dst := some 46,
                      op :=
                        Op.call { callee := Callee.builtin Builtin.max, args := { toList := [Operand.tmp 45, Operand.const (Value.int IntKind.i64 (Int.ofNat 0))] }, argTypes := { toList := [3, 3] } },
                      guard := none },
                    { dst := some 7, op := Op.assign (Operand.tmp 46), guard := none }]))
              IC.skip)).seq
        ((IC.opsD
              [{ dst := some 47, op := Op.fieldAddr 26 (Operand.tmp 3) 0, guard := none }, { dst := some 48, op := Op.load 22 (Operand.tmp 47), guard := none, bef := [0] },
                { dst := some 49, op := Op.indexAddr 22 (Operand.tmp 48) (Operand.const (Value.int IntKind.i64 (Int.ofNat 0))), guard := none, bef := [1, 0] },
                { dst := some 50, op := Op.load 3 (Operand.tmp 49), guard := none, bef := [2, 1, 0] }, { dst := some 51, op := Op.fieldAddr 26 (Operand.tmp 3) 2, guard := none },
                { dst := some 52, op := Op.load 3 (Operand.tmp 51), guard := none, bef := [4] },
                { dst := some 53, op := Op.binOp BinOp.sub 3 (Operand.tmp 50) (Operand.tmp 52) 3, guard := none, bef := [3, 2, 1, 0, 5, 4] },
                { dst := some 9, op := Op.assign (Operand.tmp 53), guard := none, bef := [6, 3, 2, 1, 0, 5, 4] }]).seq
          ((IC.opsD
                [{ dst := some 54, op := Op.fieldAddr 26 (Operand.tmp 3) 0, guard := none }, { dst := some 55, op := Op.load 22 (Operand.tmp 54), guard := none, bef := [0] },
                  { dst := some 56, op := Op.fieldAddr 26 (Operand.tmp 3) 0, guard := none }, { dst := some 57, op := Op.load 22 (Operand.tmp 56), guard := none, bef := [2] },
                  { dst := some 58, op := Op.call { callee := Callee.builtin Builtin.len, args := { toList := [Operand.tmp 57] }, argTypes := { toList := [22] } }, guard := none, bef := [3, 2] },
                  { dst := some 59, op := Op.binOp BinOp.sub 3 (Operand.tmp 58) (Operand.const (Value.int IntKind.i64 (Int.ofNat 1))) 3, guard := none, bef := [4, 3, 2] },
                  { dst := some 60, op := Op.indexAddr 22 (Operand.tmp 55) (Operand.tmp 59), guard := none, bef := [1, 0, 5, 4, 3, 2] },
                  { dst := some 61, op := Op.load 3 (Operand.tmp 60), guard := none, bef := [6, 1, 0, 5, 4, 3, 2] }, { dst := some 62, op := Op.fieldAddr 26 (Operand.tmp 3) 2, guard := none },
                  { dst := some 63, op := Op.load 3 (Operand.tmp 62), guard := none, bef := [8] },
                  { dst := some 64, op := Op.binOp BinOp.add 3 (Operand.tmp 61) (Operand.tmp 63) 3, guard := none, bef := [7, 6, 1, 0, 5, 4, 3, 2, 9, 8] },
                  { dst := some 10, op := Op.assign (Operand.tmp 64), guard := none, bef := [10, 7, 6, 1, 0, 5, 4, 3, 2, 9, 8] }]).seq
            (((IC.ops
                      [{ dst := some 65, op := Op.move (Operand.tmp 8), guard := none }, { dst := some 66, op := Op.move (Operand.tmp 9), guard := none },
                        { dst := some 67, op := Op.binOp BinOp.lss 3 (Operand.tmp 65) (Operand.tmp 66) 3, guard := none }]).seq
                  (IC.cond (Operand.tmp 67)
                    ((IC.ops
                          [{ dst := some 68, op := Op.move (Operand.tmp 9), guard := none }, { dst := some 69, op := Op.move (Operand.tmp 7), guard := none },
                            { dst := some 70,
                              op :=
                                Op.call
                                  { callee := Callee.builtin Builtin.max, args := { toList := [Operand.tmp 69, Operand.const (Value.int IntKind.i64 (Int.ofNat 0))] },
                                    argTypes := { toList := [3, 3] } },
                              guard := none },
                            { dst := some 71, op := Op.build 28 { toList := [(0, Operand.tmp 68), (1, Operand.tmp 70)] }, guard := none },
                            { dst := none, op := Op.store 28 (Operand.tmp 6) (Operand.tmp 71), guard := none }]).seq
                      IC.ret)
                    IC.skip)).seq
              (((IC.ops
                        [{ dst := some 72, op := Op.move (Operand.tmp 8), guard := none }, { dst := some 73, op := Op.move (Operand.tmp 10), guard := none },
                          { dst := some 74, op := Op.binOp BinOp.gtr 3 (Operand.tmp 72) (Operand.tmp 73) 3, guard := none }]).seq
                    (IC.cond (Operand.tmp 74)
                      ((IC.ops
                            [{ dst := some 75, op := Op.move (Operand.tmp 10), guard := none }, { dst := some 76, op := Op.move (Operand.tmp 7), guard := none },
                              { dst := some 77,
                                op :=
                                  Op.call
                                    { callee := Callee.builtin Builtin.min, args := { toList := [Operand.tmp 76, Operand.const (Value.int IntKind.i64 (Int.ofNat 0))] },
                                      argTypes := { toList := [3, 3] } },
                                guard := none },
                              { dst := some 78, op := Op.build 28 { toList := [(0, Operand.tmp 75), (1, Operand.tmp 77)] }, guard := none },
                              { dst := none, op := Op.store 28 (Operand.tmp 6) (Operand.tmp 78), guard := none }]).seq
                        IC.ret)
                      IC.skip)).seq
                ((IC.ops
                      [{ dst := some 79, op := Op.move (Operand.tmp 8), guard := none }, { dst := some 80, op := Op.move (Operand.tmp 7), guard := none },
                        { dst := some 81, op := Op.build 28 { toList := [(0, Operand.tmp 79), (1, Operand.tmp 80)] }, guard := none },
                        { dst := none, op := Op.store 28 (Operand.tmp 6) (Operand.tmp 81), guard := none }]).seq
                  IC.ret))))))))
theorem ic14_eq : Try.f14.body.map comp = some ic14 := by kernel_rfl
theorem ic14_ok : Try.f14.body.map (okC Try.f14.ntmps) = some true := by kernel_rfl
theorem ic14_nm : (Try.f14.name != "runtime.NumGoroutine") = true := by kernel_rfl
@[simp] theorem ic14_n : Try.f14.ntmps = 82 := by kernel_rfl
@[simp] theorem ic14_r : Try.f14.results.toList = [ResultVar.cell 6 28] := by kernel_rfl

def ic15 : IC :=
  (IC.ops
      [{ dst := some 2, op := Op.box 26 (Operand.tmp 0), guard := none }, { dst := some 3, op := Op.box 35 (Operand.tmp 1), guard := none },
        { dst := some 4, op := Op.assign (Operand.const (Value.int IntKind.i64 (Int.ofNat 0))), guard := none }]).seq
  (((IC.ops
            [{ dst := some 6, op := Op.fieldAddr 35 (Operand.tmp 3) 1, guard := none }, { dst := some 7, op := Op.load 4 (Operand.tmp 6), guard := none },
              { dst := some 8, op := Op.unOp UnOp.not 4 (Operand.tmp 7), guard := none }]).seq
        (IC.cond (Operand.tmp 8) ((IC.ops [{ dst := some 4, op := Op.assign (Operand.const (Value.int IntKind.i64 (Int.ofNat 0))), guard := none }]).seq IC.ret) IC.skip)).seq
    ((IC.ops [{ dst := some 5, op := Op.assign (Operand.const (Value.int IntKind.i64 (Int.ofNat 1))), guard := none }]).seq
      (((IC.ops [{ dst := some 9, op := Op.fieldAddr 35 (Operand.tmp 3) 0, guard := none }, { dst := some 10, op := Op.load 3 (Operand.tmp 9), guard := none }]).seq
            (IC.block 0
              ((IC.block 4
                    ((IC.block 3
                          ((IC.block 2
                                ((IC.block 1
                                      ((((IC.ops
                                                    [{ dst := some 12, op := Op.binOp BinOp.eql 3 (Operand.tmp 10) (Operand.const (Value.int IntKind.i64 (Int.ofNat 3))) 3, guard := none },
                                                      { dst := some 11, op := Op.assign (Operand.tmp 12), guard := none }]).seq
                                                (IC.cond (Operand.tmp 11) (IC.exit 1) IC.skip)).seq
                                            (((IC.ops
                                                      [{ dst := some 14, op := Op.binOp BinOp.eql 3 (Operand.tmp 10) (Operand.const (Value.int IntKind.i64 (Int.ofNat 1))) 3, guard := none },
                                                        { dst := some 13, op := Op.assign (Operand.tmp 14), guard := none }]).seq
                                                  (IC.cond (Operand.tmp 13) (IC.exit 2) IC.skip)).seq
                                              (((IC.ops
                                                        [{ dst := some 16, op := Op.binOp BinOp.eql 3 (Operand.tmp 10) (Operand.const (Value.int IntKind.i64 (Int.ofNat 4))) 3, guard := none },
                                                          { dst := some 15, op := Op.assign (Operand.tmp 16), guard := none }]).seq
                                                    (IC.cond (Operand.tmp 15) (IC.exit 3) IC.skip)).seq
                                                ((IC.ops
                                                      [{ dst := some 18, op := Op.binOp BinOp.eql 3 (Operand.tmp 10) (Operand.const (Value.int IntKind.i64 (Int.ofNat 2))) 3, guard := none },
                                                        { dst := some 17, op := Op.assign (Operand.tmp 18), guard := none }]).seq
                                                  (IC.cond (Operand.tmp 17) (IC.exit 4) IC.skip))))).seq
                                        (IC.exit 0))).seq
                                  (IC.ops [{ dst := some 5, op := Op.assign (Operand.const (Value.int IntKind.i64 (Int.negSucc 0))), guard := none }]))).seq
                            (((IC.ops
                                      [{ dst := some 19, op := Op.move (Operand.tmp 5), guard := none }, { dst := some 20, op := Op.fieldAddr 35 (Operand.tmp 3) 2, guard := none },
                                        { dst := some 21, op := Op.load 3 (Operand.tmp 20), guard := none }, { dst := some 22, op := Op.fieldAddr 26 (Operand.tmp 2) 8, guard := none },
                                        { dst := some 23, op := Op.fieldAddr 24 (Operand.tmp 22) 0, guard := none }, { dst := some 24, op := Op.load 3 (Operand.tmp 23), guard := none },
                                        { dst := some 25, op := Op.fieldAddr 26 (Operand.tmp 2) 8, guard := none }, { dst := some 26, op := Op.fieldAddr 24 (Operand.tmp 25) 1, guard := none },
                                        { dst := some 27, op := Op.load 3 (Operand.tmp 26), guard := none },
                                        { dst := some 28,
                                          op :=
                                            Op.call
                                              { callee := Callee.value (Operand.func 18), args := { toList := [Operand.tmp 21, Operand.tmp 24, Operand.tmp 27] }, argTypes := { toList := [3, 3, 3] } },
                                          guard := none },
                                        { dst := some 29, op := Op.binOp BinOp.mul 3 (Operand.tmp 19) (Operand.tmp 28) 3, guard := none },
                                        { dst := some 4, op := Op.assign (Operand.tmp 29), guard := none }]).seq
                                  IC.ret).seq
                              (IC.exit 0)))).seq
                      (IC.ops [{ dst := some 5, op := Op.assign (Operand.const (Value.int IntKind.i64 (Int.negSucc 0))), guard := none }]))).seq
                (((IC.ops
                          [{ dst := some 30, op := Op.move (Operand.tmp 5), guard := none }, { dst := some 31, op := Op.fieldAddr 35 (Operand.tmp 3) 2, guard := none },
                            { dst := some 32, op := Op.load 3 (Operand.tmp 31), guard := none }, { dst := some 33, op := Op.fieldAddr 26 (Operand.tmp 2) 7, guard := none },
                            { dst := some 34, op := Op.fieldAddr 24 (Operand.tmp 33) 0, guard := none }, { dst := some 35, op := Op.load 3 (Operand.tmp 34), guard := none },
                            { dst := some 36, op := Op.fieldAddr 26 (Operand.tmp 2) 7, guard := none }, { dst := some 37, op := Op.fieldAddr 24 (Operand.tmp 36) 1, guard := none },
                            { dst := some 38, op := Op.load 3 (Operand.tmp 37), guard := none },
                            { dst := some 39,
                              op := Op.call { callee := Callee.value (Operand.func 18), args := { toList := [Operand.tmp 32, Operand.tmp 35, Operand.tmp 38] }, argTypes := { toList := [3, 3, 3] } },
                              guard := none },
                            { dst := some 40, op := Op.binOp BinOp.mul 3 (Operand.tmp 30) (Operand.tmp 39) 3, guard := none }, { dst := some 4, op := Op.assign (Operand.tmp 40), guard := none }]).seq
                      IC.ret).seq
                  (IC.exit 0))))).seq
        ((IC.ops [{ dst := some 4, op := Op.assign (Operand.const (Value.int IntKind.i64 (Int.ofNat 0))), guard := none }]).seq IC.ret))))
theorem ic15_eq : Try.f15.body.map comp = some ic15 := by kernel_rfl
theorem ic15_ok : Try.f15.body.map (okC Try.f15.ntmps) = some true := by kernel_rfl
theorem ic15_nm : (Try.f15.name != "runtime.NumGoroutine") = true := by kernel_rfl
@[simp] theorem ic15_n : Try.f15.ntmps = 41 := by kernel_rfl
@[simp] theorem ic15_r : Try.f15.results.toList = [ResultVar.tmp 4] := by kernel_rfl

def ic16 : IC :=
  (IC.ops
      [{ dst := some 2, op := Op.box 26 (Operand.tmp 0), guard := none }, { dst := some 3, op := Op.box 30 (Operand.tmp 1), guard := none },
        { dst := some 4, op := Op.assign (Operand.const (Value.int IntKind.i64 (Int.ofNat 0))), guard := none }]).seq
  ((IC.ops
        [{ dst := some 7, op := Op.fieldAddr 30 (Operand.tmp 3) 2, guard := none }, { dst := some 8, op := Op.load 3 (Operand.tmp 7), guard := none },
          { dst := some 9, op := Op.fieldAddr 26 (Operand.tmp 2) 8, guard := none }, { dst := some 10, op := Op.fieldAddr 24 (Operand.tmp 9) 0, guard := none },
          { dst := some 11, op := Op.load 3 (Operand.tmp 10), guard := none }, { dst := some 12, op := Op.fieldAddr 26 (Operand.tmp 2) 8, guard := none },
          { dst := some 13, op := Op.fieldAddr 24 (Operand.tmp 12) 1, guard := none }, { dst := some 14, op := Op.load 3 (Operand.tmp 13), guard := none },
          { dst := some 15, op := Op.call { callee := Callee.value (Operand.func 27), args := { toList := [Operand.tmp 8, Operand.tmp 11, Operand.tmp 14] }, argTypes := { toList := [3, 3, 3] } },
            guard := none },
          { dst := some 5, op := Op.assign (Operand.tmp 15), guard := none }]).seq
    ((IC.ops
          [{ dst := some 16, op := Op.fieldAddr 30 (Operand.tmp 3) 2, guard := none }, { dst := some 17, op := Op.load 3 (Operand.tmp 16), guard := none },
            { dst := some 18, op := Op.fieldAddr 26 (Operand.tmp 2) 7, guard := none }, { dst := some 19, op := Op.fieldAddr 24 (Operand.tmp 18) 0, guard := none },
            { dst := some 20, op := Op.load 3 (Operand.tmp 19), guard := none }, { dst := some 21, op := Op.fieldAddr 26 (Operand.tmp 2) 7, guard := none },
            { dst := some 22, op := Op.fieldAddr 24 (Operand.tmp 21) 1, guard := none }, { dst := some 23, op := Op.load 3 (Operand.tmp 22), guard := none },
            { dst := some 24, op := Op.call { callee := Callee.value (Operand.func 27), args := { toList := [Operand.tmp 17, Operand.tmp 20, Operand.tmp 23] }, argTypes := { toList := [3, 3, 3] } },
              guard := none },
            { dst := some 6, op := Op.assign (Operand.tmp 24), guard := none }]).seq
      (((IC.ops
                [{ dst := some 25, op := Op.fieldAddr 30 (Operand.tmp 3) 1, guard := none }, { dst := some 26, op := Op.load 4 (Operand.tmp 25), guard := none },
                  { dst := some 27, op := Op.unOp UnOp.not 4 (Operand.tmp 26), guard := none }]).seq
            (IC.cond (Operand.tmp 27) ((IC.ops [{ dst := some 4, op := Op.assign (Operand.const (Value.int IntKind.i64 (Int.ofNat 0))), guard := none }]).seq IC.ret) IC.skip)).seq
        (((IC.ops
                  [{ dst := some 28, op := Op.fieldAddr 30 (Operand.tmp 3) 0, guard := none }, { dst := some 29, op := Op.load 3 (Operand.tmp 28), guard := none },
                    { dst := some 30, op := Op.binOp BinOp.eql 3 (Operand.tmp 29) (Operand.const (Value.int IntKind.i64 (Int.ofNat 1))) 3, guard := none }]).seq
              (IC.cond (Operand.tmp 30) ((IC.ops [{ dst := some 31, op := Op.move (Operand.tmp 5), guard := none }, { dst := some 4, op := Op.assign (Operand.tmp 31), guard := none }]).seq IC.ret)
                IC.skip)).seq
          (((IC.ops
                    [{ dst := some 32, op := Op.fieldAddr 30 (Operand.tmp 3) 0, guard := none }, { dst := some 33, op := Op.load 3 (Operand.tmp 32), guard := none },
                      { dst := some 34, op := Op.binOp BinOp.eql 3 (Operand.tmp 33) (Operand.const (Value.int IntKind.i64 (Int.ofNat 2))) 3, guard := none }]).seq
                (IC.cond (Operand.tmp 34) ((IC.ops [{ dst := some 35, op := Op.move (Operand.tmp 6), guard := none }, { dst := some 4, op := Op.assign (Operand.tmp 35), guard := none }]).seq IC.ret)
                  IC.skip)).seq
            (((IC.ops
                      [{ dst := some 36, op := Op.fieldAddr 30 (Operand.tmp 3) 0, guard := none }, { dst := some 37, op := Op.load 3 (Operand.tmp 36), guard := none },
                        { dst := some 38, op := Op.binOp BinOp.eql 3 (Operand.tmp 37) (Operand.const (Value.int IntKind.i64 (Int.ofNat 3))) 3, guard := none }]).seq
                  (IC.cond (Operand.tmp 38)
                    ((IC.ops
                          [{ dst := some 39, op := Op.move (Operand.tmp 5), guard := none }, { dst := some 40, op := Op.unOp UnOp.neg 3 (Operand.tmp 39), guard := none },
                            { dst := some 4, op := Op.assign (Operand.tmp 40), guard := none }]).seq
                      IC.ret)
                    IC.skip)).seq
              (((IC.ops
                        [{ dst := some 41, op := Op.fieldAddr 30 (Operand.tmp 3) 0, guard := none }, { dst := some 42, op := Op.load 3 (Operand.tmp 41), guard := none },
                          { dst := some 43, op := Op.binOp BinOp.eql 3 (Operand.tmp 42) (Operand.const (Value.int IntKind.i64 (Int.ofNat 4))) 3, guard := none }]).seq
                    (IC.cond (Operand.tmp 43)
                      ((IC.ops
                            [{ dst := some 44, op := Op.move (Operand.tmp 6), guard := none }, { dst := some 45, op := Op.unOp UnOp.neg 3 (Operand.tmp 44), guard := none },
                              { dst := some 4, op := Op.assign (Operand.tmp 45), guard := none }]).seq
                        IC.ret)
                      IC.skip)).seq
                ((IC.ops [{ dst := some 4, op := Op.assign (Operand.const (Value.int IntKind.i64 (Int.ofNat 0))), guard := none }]).seq IC.ret))))))))
theorem ic16_eq : Try.f16.body.map comp = some ic16 := by kernel_rfl
theorem ic16_ok : Try.f16.body.map (okC Try.f16.ntmps) = some true := by kernel_rfl
theorem ic16_nm : (Try.f16.name != "runtime.NumGoroutine") = true := by kernel_rfl
@[simp] theorem ic16_n : Try.f16.ntmps = 46 := by kernel_rfl
@[simp] theorem ic16_r : Try.f16.results.toList = [ResultVar.tmp 4] := by kernel_rfl

def ic17 : IC :=
  (IC.ops [{ dst := some 1, op := Op.box 26 (Operand.tmp 0), guard := none }, { dst := some 2, op := Op.assign (Operand.const (Value.int IntKind.i64 (Int.ofNat 0))), guard := none }]).seq
  ((IC.ops
        [{ dst := some 3, op := Op.load 26 (Operand.tmp 1), guard := none },
          { dst := some 4, op := Op.call { callee := Callee.value (Operand.func 28), args := { toList := [Operand.tmp 3, Operand.func 29] }, argTypes := { toList := [26, 44] } }, guard := none },
          { dst := some 2, op := Op.assign (Operand.tmp 4), guard := none }]).seq
    IC.ret)
theorem ic17_eq : Try.f17.body.map comp = some ic17 := by kernel_rfl
theorem ic17_ok : Try.f17.body.map (okC Try.f17.ntmps) = some true := by kernel_rfl
theorem ic17_nm : (Try.f17.name != "runtime.NumGoroutine") = true := by kernel_rfl
@[simp] theorem ic17_n : Try.f17.ntmps = 5 := by kernel_rfl
@[simp] theorem ic17_r : Try.f17.results.toList = [ResultVar.tmp 2] := by kernel_rfl

def ic18 : IC :=
  (IC.ops [{ dst := some 6, op := Op.assign (Operand.const (Value.int IntKind.i64 (Int.ofNat 0))), guard := none }]).seq
  (((IC.ops
            [{ dst := some 7, op := Op.move (Operand.tmp 0), guard := none }, { dst := some 8, op := Op.move (Operand.tmp 1), guard := none },
              { dst := some 9, op := Op.binOp BinOp.lss 3 (Operand.tmp 7) (Operand.tmp 8) 3, guard := none }]).seq
        (IC.cond (Operand.tmp 9) ((IC.ops [{ dst := some 10, op := Op.move (Operand.tmp 1), guard := none }, { dst := some 6, op := Op.assign (Operand.tmp 10), guard := none }]).seq IC.ret)
          IC.skip)).seq
    ((IC.ops
          [{ dst := some 11, op := Op.move (Operand.tmp 0), guard := none }, { dst := some 12, op := Op.move (Operand.tmp 2), guard := none },
            { dst := some 13, op := Op.call { callee := Callee.builtin Builtin.min, args := { toList := [Operand.tmp 11, Operand.tmp 12] }, argTypes := { toList := [3, 3] } }, guard := none },
            { dst := some 6, op := Op.assign (Operand.tmp 13), guard := none }]).seq
      IC.ret))
theorem ic18_eq : Try.f18.body.map comp = some ic18 := by kernel_rfl
theorem ic18_ok : Try.f18.body.map (okC Try.f18.ntmps) = some true := by kernel_rfl
theorem ic18_nm : (Try.f18.name != "runtime.NumGoroutine") = true := by kernel_rfl
@[simp] theorem ic18_n : Try.f18.ntmps = 14 := by kernel_rfl
@[simp] theorem ic18_r : Try.f18.results.toList = [ResultVar.tmp 6] := by kernel_rfl

def ic19 : IC :=
  (IC.ops [{ dst := some 1, op := Op.box 26 (Operand.tmp 0), guard := none }, { dst := some 2, op := Op.assign (Operand.const (Value.int IntKind.i64 (Int.ofNat 0))), guard := none }]).seq
  ((IC.ops
        [{ dst := some 3, op := Op.load 26 (Operand.tmp 1), guard := none },
          { dst := some 4, op := Op.call { callee := Callee.value (Operand.func 28), args := { toList := [Operand.tmp 3, Operand.func 30] }, argTypes := { toList := [26, 44] } }, guard := none },
          { dst := some 2, op := Op.assign (Operand.tmp 4), guard := none }]).seq
    IC.ret)
theorem ic19_eq : Try.f19.body.map comp = some ic19 := by kernel_rfl
theorem ic19_ok : Try.f19.body.map (okC Try.f19.ntmps) = some true := by kernel_rfl
theorem ic19_nm : (Try.f19.name != "runtime.NumGoroutine") = true := by kernel_rfl
@[simp] theorem ic19_n : Try.f19.ntmps = 5 := by kernel_rfl
@[simp] theorem ic19_r : Try.f19.results.toList = [ResultVar.tmp 2] := by kernel_rfl

def ic20 : IC :=
  (IC.ops [{ dst := some 1, op := Op.box 51 (Operand.tmp 0), guard := none }, { dst := some 2, op := Op.alloc 26, guard := none }]).seq
  ((IC.opsD
        [{ dst := some 8, op := Op.fieldAddr 51 (Operand.tmp 1) 1, guard := none }, { dst := some 9, op := Op.load 5 (Operand.tmp 8), guard := none, bef := [0] },
          { dst := some 10, op := Op.binOp BinOp.rem 5 (Operand.tmp 9) (Operand.const (Value.int IntKind.u8 (Int.ofNat 9))) 5, guard := none, bef := [1, 0] },
          { dst := some 11, op := Op.convert 5 3 (Operand.tmp 10), guard := none, bef := [2, 1, 0] },
          { dst := some 12, op := Op.binOp BinOp.add 3 (Operand.const (Value.int IntKind.i64 (Int.ofNat 2))) (Operand.tmp 11) 3, guard := none, bef := [3, 2, 1, 0] },
          { dst := some 13, op := Op.fieldAddr 51 (Operand.tmp 1) 2, guard := none }, { dst := some 14, op := Op.load 5 (Operand.tmp 13), guard := none, bef := [5] },
          { dst := some 15, op := Op.binOp BinOp.rem 5 (Operand.tmp 14) (Operand.const (Value.int IntKind.u8 (Int.ofNat 30))) 5, guard := none, bef := [6, 5] },
          { dst := some 16, op := Op.convert 5 3 (Operand.tmp 15), guard := none, bef := [7, 6, 5] }, { dst := some 3, op := Op.assign (Operand.tmp 12), guard := none, bef := [4, 3, 2, 1, 0] },
          { dst := some 4, op := Op.assign (Operand.tmp 16), guard := none, bef := [8, 7, 6, 5, 9, 4, 3, 2, 1, 0] }]).seq
    ((IC.opsD
          [{ dst := some 17, op := Op.move (Operand.tmp 3), guard := none }, { dst := some 18, op := Op.move (Operand.tmp 3), guard := none },
            { dst := some 19, op := Op.fieldAddr 51 (Operand.tmp 1) 1, guard := none }, { dst := some 20, op := Op.load 5 (Operand.tmp 19), guard := none, bef := [2] },
            { dst := some 21, op := Op.binOp BinOp.quo 5 (Operand.tmp 20) (Operand.const (Value.int IntKind.u8 (Int.ofNat 9))) 5, guard := none, bef := [3, 2] },
            { dst := some 22, op := Op.binOp BinOp.rem 5 (Operand.tmp 21) (Operand.const (Value.int IntKind.u8 (Int.ofNat 4))) 5, guard := none, bef := [4, 3, 2] },
            { dst := some 23, op := Op.convert 5 3 (Operand.tmp 22), guard := none, bef := [5, 4, 3, 2] },
            { dst := some 24, op := Op.binOp BinOp.add 3 (Operand.tmp 18) (Operand.tmp 23) 3, guard := none, bef := [1, 6, 5, 4, 3, 2] },
            { dst := some 25, op := Op.build 24 { toList := [(0, Operand.tmp 17), (1, Operand.tmp 24)] }, guard := none, bef := [0, 7, 1, 6, 5, 4, 3, 2] },
            { dst := some 26, op := Op.fieldAddr 51 (Operand.tmp 1) 3, guard := none }, { dst := some 27, op := Op.load 5 (Operand.tmp 26), guard := none, bef := [9] },
            { dst := some 28, op := Op.binOp BinOp.rem 5 (Operand.tmp 27) (Operand.const (Value.int IntKind.u8 (Int.ofNat 12))) 5, guard := none, bef := [10, 9] },
            { dst := some 29, op := Op.convert 5 3 (Operand.tmp 28), guard := none, bef := [11, 10, 9] },
            { dst := some 30, op := Op.binOp BinOp.add 3 (Operand.const (Value.int IntKind.i64 (Int.ofNat 1))) (Operand.tmp 29) 3, guard := none, bef := [12, 11, 10, 9] },
            { dst := some 31, op := Op.fieldAddr 51 (Operand.tmp 1) 4, guard := none }, { dst := some 32, op := Op.load 5 (Operand.tmp 31), guard := none, bef := [14] },
            { dst := some 33, op := Op.convert 5 3 (Operand.tmp 32), guard := none, bef := [15, 14] }, { dst := some 34, op := Op.move (Operand.tmp 3), guard := none },
            { dst := some 35, op := Op.binOp BinOp.rem 3 (Operand.tmp 33) (Operand.tmp 34) 3, guard := none, bef := [16, 15, 14, 17] },
            { dst := some 36, op := Op.fieldAddr 51 (Operand.tmp 1) 9, guard := none }, { dst := some 37, op := Op.load 5 (Operand.tmp 36), guard := none, bef := [19] },
            { dst := some 38, op := Op.binOp BinOp.rem 5 (Operand.tmp 37) (Operand.const (Value.int IntKind.u8 (Int.ofNat 12))) 5, guard := none, bef := [20, 19] },
            { dst := some 39, op := Op.convert 5 3 (Operand.tmp 38), guard := none, bef := [21, 20, 19] },
            { dst := some 40, op := Op.build 26 { toList := [(8, Operand.tmp 25), (10, Operand.tmp 30), (9, Operand.tmp 35), (13, Operand.tmp 39)] }, guard := none,
              bef := [8, 0, 7, 1, 6, 5, 4, 3, 2, 13, 12, 11, 10, 9, 18, 16, 15, 14, 17, 22, 21, 20, 19] },
            { dst := some 5, op := Op.alloc 26, guard := none },
            { dst := none, op := Op.store 26 (Operand.tmp 5) (Operand.tmp 40), guard := none, bef := [24, 23, 8, 0, 7, 1, 6, 5, 4, 3, 2, 13, 12, 11, 10, 9, 18, 16, 15, 14, 17, 22, 21, 20, 19] }]).seq
      ((IC.ops
            [{ dst := some 41, op := Op.fieldAddr 26 (Operand.tmp 5) 8, guard := none }, { dst := some 42, op := Op.fieldAddr 24 (Operand.tmp 41) 1, guard := none },
              { dst := some 43, op := Op.load 3 (Operand.tmp 42), guard := none }, { dst := some 44, op := Op.move (Operand.tmp 4), guard := none },
              { dst := some 45, op := Op.binOp BinOp.add 3 (Operand.tmp 43) (Operand.tmp 44) 3, guard := none }, { dst := some 46, op := Op.fieldAddr 26 (Operand.tmp 5) 8, guard := none },
              { dst := some 47, op := Op.fieldAddr 24 (Operand.tmp 46) 1, guard := none }, { dst := some 48, op := Op.load 3 (Operand.tmp 47), guard := none },
              { dst := some 49, op := Op.move (Operand.tmp 4), guard := none }, { dst := some 50, op := Op.binOp BinOp.add 3 (Operand.tmp 48) (Operand.tmp 49) 3, guard := none },
              { dst := some 51, op := Op.fieldAddr 51 (Operand.tmp 1) 2, guard := none }, { dst := some 52, op := Op.load 5 (Operand.tmp 51), guard := none },
              { dst := some 53, op := Op.binOp BinOp.quo 5 (Operand.tmp 52) (Operand.const (Value.int IntKind.u8 (Int.ofNat 30))) 5, guard := none },
              { dst := some 54, op := Op.binOp BinOp.rem 5 (Operand.tmp 53) (Operand.const (Value.int IntKind.u8 (Int.ofNat 4))) 5, guard := none },
              { dst := some 55, op := Op.convert 5 3 (Operand.tmp 54), guard := none }, { dst := some 56, op := Op.binOp BinOp.add 3 (Operand.tmp 50) (Operand.tmp 55) 3, guard := none },
              { dst := some 57, op := Op.build 24 { toList := [(0, Operand.tmp 45), (1, Operand.tmp 56)] }, guard := none }, { dst := some 58, op := Op.fieldAddr 26 (Operand.tmp 5) 7, guard := none },
              { dst := none, op := Op.store 24 (Operand.tmp 58) (Operand.tmp 57), guard := none }]).seq
        ((IC.opsD
              [{ dst := some 59, op := Op.fieldAddr 26 (Operand.tmp 5) 8, guard := none }, { dst := some 60, op := Op.fieldAddr 24 (Operand.tmp 59) 1, guard := none, bef := [0] },
                { dst := some 61, op := Op.load 3 (Operand.tmp 60), guard := none, bef := [1, 0] }, { dst := some 62, op := Op.fieldAddr 26 (Operand.tmp 5) 8, guard := none },
                { dst := some 63, op := Op.fieldAddr 24 (Operand.tmp 62) 1, guard := none, bef := [3] }, { dst := some 64, op := Op.load 3 (Operand.tmp 63), guard := none, bef := [4, 3] },
                { dst := some 65, op := Op.fieldAddr 26 (Operand.tmp 5) 10, guard := none }, { dst := some 66, op := Op.load 3 (Operand.tmp 65), guard := none, bef := [6] },
                { dst := some 67, op := Op.call { callee := Callee.value (Operand.func 33), args := { toList := [Operand.tmp 64, Operand.tmp 66] }, argTypes := { toList := [3, 3] } }, guard := none,
                  bef := [5, 4, 3, 7, 6] },
                { dst := some 68, op := Op.binOp BinOp.add 3 (Operand.tmp 61) (Operand.tmp 67) 3, guard := none, bef := [2, 1, 0, 8, 5, 4, 3, 7, 6] },
                { dst := some 6, op := Op.assign (Operand.tmp 68), guard := none, bef := [9, 2, 1, 0, 8, 5, 4, 3, 7, 6] }]).seq
          ((IC.ops
                [{ dst := some 69, op := Op.move (Operand.tmp 6), guard := none }, { dst := some 70, op := Op.fieldAddr 51 (Operand.tmp 1) 5, guard := none },
                  { dst := some 71, op := Op.indexAddr 48 (Operand.tmp 70) (Operand.const (Value.int IntKind.i64 (Int.ofNat 0))), guard := none },
                  { dst := some 72, op := Op.load 5 (Operand.tmp 71), guard := none },
                  { dst := some 73, op := Op.binOp BinOp.rem 5 (Operand.tmp 72) (Operand.const (Value.int IntKind.u8 (Int.ofNat 8))) 5, guard := none },
                  { dst := some 74, op := Op.convert 5 3 (Operand.tmp 73), guard := none }, { dst := some 75, op := Op.binOp BinOp.add 3 (Operand.tmp 69) (Operand.tmp 74) 3, guard := none },
                  { dst := some 76, op := Op.fieldAddr 26 (Operand.tmp 5) 4, guard := none }, { dst := none, op := Op.store 3 (Operand.tmp 76) (Operand.tmp 75), guard := none }]).seq
            ((IC.ops
                  [{ dst := some 77, op := Op.fieldAddr 26 (Operand.tmp 5) 4, guard := none }, { dst := some 78, op := Op.load 3 (Operand.tmp 77), guard := none },
                    { dst := some 79, op := Op.fieldAddr 51 (Operand.tmp 1) 5, guard := none },
                    { dst := some 80, op := Op.indexAddr 48 (Operand.tmp 79) (Operand.const (Value.int IntKind.i64 (Int.ofNat 1))), guard := none },
                    { dst := some 81, op := Op.load 5 (Operand.tmp 80), guard := none },
                    { dst := some 82, op := Op.binOp BinOp.rem 5 (Operand.tmp 81) (Operand.const (Value.int IntKind.u8 (Int.ofNat 8))) 5, guard := none },
                    { dst := some 83, op := Op.convert 5 3 (Operand.tmp 82), guard := none }, { dst := some 84, op := Op.binOp BinOp.add 3 (Operand.tmp 78) (Operand.tmp 83) 3, guard := none },
                    { dst := some 85, op := Op.fieldAddr 26 (Operand.tmp 5) 5, guard := none }, { dst := none, op := Op.store 3 (Operand.tmp 85) (Operand.tmp 84), guard := none }]).seq
              ((IC.opsD
                    [{ dst := some 86, op := Op.fieldAddr 26 (Operand.tmp 5) 5, guard := none }, { dst := some 87, op := Op.load 3 (Operand.tmp 86), guard := none, bef := [0] },
                      { dst := some 88, op := Op.fieldAddr 26 (Operand.tmp 5) 9, guard := none }, { dst := some 89, op := Op.load 3 (Operand.tmp 88), guard := none, bef := [2] },
                      { dst := some 90, op := Op.fieldAddr 26 (Operand.tmp 5) 13, guard := none }, { dst := some 91, op := Op.load 3 (Operand.tmp 90), guard := none, bef := [4] },
                      { dst := some 92, op := Op.binOp BinOp.add 3 (Operand.tmp 91) (Operand.const (Value.int IntKind.i64 (Int.ofNat 4))) 3, guard := none, bef := [5, 4] },
                      { dst := some 93, op := Op.fieldAddr 26 (Operand.tmp 5) 8, guard := none }, { dst := some 94, op := Op.fieldAddr 24 (Operand.tmp 93) 1, guard := none, bef := [7] },
                      { dst := some 95, op := Op.load 3 (Operand.tmp 94), guard := none, bef := [8, 7] }, { dst := some 96, op := Op.fieldAddr 26 (Operand.tmp 5) 10, guard := none },
                      { dst := some 97, op := Op.load 3 (Operand.tmp 96), guard := none, bef := [10] },
                      { dst := some 98, op := Op.call { callee := Callee.value (Operand.func 34), args := { toList := [Operand.tmp 95, Operand.tmp 97] }, argTypes := { toList := [3, 3] } },
                        guard := none, bef := [9, 8, 7, 11, 10] },
                      { dst := some 99, op := Op.binOp BinOp.add 3 (Operand.tmp 92) (Operand.tmp 98) 3, guard := none, bef := [6, 5, 4, 12, 9, 8, 7, 11, 10] },
                      { dst := some 100, op := Op.binOp BinOp.mul 3 (Operand.tmp 89) (Operand.tmp 99) 3, guard := none, bef := [3, 2, 13, 6, 5, 4, 12, 9, 8, 7, 11, 10] },
                      { dst := some 101, op := Op.binOp BinOp.add 3 (Operand.tmp 87) (Operand.tmp 100) 3, guard := none, bef := [1, 0, 14, 3, 2, 13, 6, 5, 4, 12, 9, 8, 7, 11, 10] },
                      { dst := some 102, op := Op.fieldAddr 26 (Operand.tmp 5) 7, guard := none }, { dst := some 103, op := Op.fieldAddr 24 (Operand.tmp 102) 1, guard := none, bef := [16] },
                      { dst := some 104, op := Op.load 3 (Operand.tmp 103), guard := none, bef := [17, 16] },
                      { dst := some 105, op := Op.binOp BinOp.add 3 (Operand.tmp 104) (Operand.const (Value.int IntKind.i64 (Int.ofNat 1))) 3, guard := none, bef := [18, 17, 16] },
                      { dst := some 106, op := Op.binOp BinOp.quo 3 (Operand.tmp 105) (Operand.const (Value.int IntKind.i64 (Int.ofNat 2))) 3, guard := none, bef := [19, 18, 17, 16] },
                      { dst := some 107, op := Op.call { callee := Callee.builtin Builtin.max, args := { toList := [Operand.tmp 101, Operand.tmp 106] }, argTypes := { toList := [3, 3] } },
                        guard := none, bef := [15, 1, 0, 14, 3, 2, 13, 6, 5, 4, 12, 9, 8, 7, 11, 10, 20, 19, 18, 17, 16] },
                      { dst := some 108, op := Op.fieldAddr 51 (Operand.tmp 1) 5, guard := none },
                      { dst := some 109, op := Op.indexAddr 48 (Operand.tmp 108) (Operand.const (Value.int IntKind.i64 (Int.ofNat 2))), guard := none, bef := [22] },
                      { dst := some 110, op := Op.load 5 (Operand.tmp 109), guard := none, bef := [23, 22] },
                      { dst := some 111, op := Op.binOp BinOp.rem 5 (Operand.tmp 110) (Operand.const (Value.int IntKind.u8 (Int.ofNat 20))) 5, guard := none, bef := [24, 23, 22] },
                      { dst := some 112, op := Op.convert 5 3 (Operand.tmp 111), guard := none, bef := [25, 24, 23, 22] },
                      { dst := some 113, op := Op.binOp BinOp.add 3 (Operand.tmp 107) (Operand.tmp 112) 3, guard := none,
                        bef := [21, 15, 1, 0, 14, 3, 2, 13, 6, 5, 4, 12, 9, 8, 7, 11, 10, 20, 19, 18, 17, 16, 26, 25, 24, 23, 22] },
                      { dst := some 114, op := Op.fieldAddr 26 (Operand.tmp 5) 3, guard := none,
                        bef := [0, 1, 2, 3, 4, 5, 6, 7, 8, 9, 10, 11, 12, 13, 14, 15, 16, 17, 18, 19, 20, 21, 22, 23, 24, 25, 26, 27] },
                      { dst := none, op := Op.store 3 (Operand.tmp 114) (Operand.tmp 113), guard := none,
                        bef := [28, 0, 1, 2, 3, 4, 5, 6, 7, 8, 9, 10, 11, 12, 13, 14, 15, 16, 17, 18, 19, 20, 21, 22, 23, 24, 25, 26, 27] }]).seq
                ((IC.ops
                      [{ dst := some 115, op := Op.fieldAddr 26 (Operand.tmp 5) 3, guard := none }, { dst := some 116, op := Op.load 3 (Operand.tmp 115), guard := none },
                        { dst := some 117, op := Op.move (Operand.tmp 6), guard := none }, { dst := some 118, op := Op.binOp BinOp.add 3 (Operand.tmp 116) (Operand.tmp 117) 3, guard := none },
                        { dst := some 119, op := Op.fieldAddr 51 (Operand.tmp 1) 5, guard := none },
                        { dst := some 120, op := Op.indexAddr 48 (Operand.tmp 119) (Operand.const (Value.int IntKind.i64 (Int.ofNat 3))), guard := none },
                        { dst := some 121, op := Op.load 5 (Operand.tmp 120), guard := none },
                        { dst := some 122, op := Op.binOp BinOp.rem 5 (Operand.tmp 121) (Operand.const (Value.int IntKind.u8 (Int.ofNat 20))) 5, guard := none },
                        { dst := some 123, op := Op.convert 5 3 (Operand.tmp 122), guard := none },
                        { dst := some 124, op := Op.binOp BinOp.add 3 (Operand.tmp 118) (Operand.tmp 123) 3, guard := none },
                        { dst := some 125, op := Op.fieldAddr 26 (Operand.tmp 5) 2, guard := none }, { dst := none, op := Op.store 3 (Operand.tmp 125) (Operand.tmp 124), guard := none }]).seq
                  ((IC.opsD
                        [{ dst := some 126, op := Op.fieldAddr 26 (Operand.tmp 5) 2, guard := none }, { dst := some 127, op := Op.load 3 (Operand.tmp 126), guard := none, bef := [0] },
                          { dst := some 128, op := Op.fieldAddr 26 (Operand.tmp 5) 7, guard := none }, { dst := some 129, op := Op.fieldAddr 24 (Operand.tmp 128) 1, guard := none, bef := [2] },
                          { dst := some 130, op := Op.load 3 (Operand.tmp 129), guard := none, bef := [3, 2] },
                          { dst := some 131, op := Op.binOp BinOp.add 3 (Operand.tmp 127) (Operand.tmp 130) 3, guard := none, bef := [1, 0, 4, 3, 2] },
                          { dst := some 132, op := Op.fieldAddr 26 (Operand.tmp 5) 7, guard := none }, { dst := some 133, op := Op.fieldAddr 24 (Operand.tmp 132) 1, guard := none, bef := [6] },
                          { dst := some 134, op := Op.load 3 (Operand.tmp 133), guard := none, bef := [7, 6] }, { dst := some 135, op := Op.fieldAddr 26 (Operand.tmp 5) 10, guard := none },
                          { dst := some 136, op := Op.load 3 (Operand.tmp 135), guard := none, bef := [9] },
                          { dst := some 137, op := Op.call { callee := Callee.value (Operand.func 33), args := { toList := [Operand.tmp 134, Operand.tmp 136] }, argTypes := { toList := [3, 3] } },
                            guard := none, bef := [8, 7, 6, 10, 9] },
                          { dst := some 138, op := Op.binOp BinOp.add 3 (Operand.tmp 131) (Operand.tmp 137) 3, guard := none, bef := [5, 1, 0, 4, 3, 2, 11, 8, 7, 6, 10, 9] },
                          { dst := some 139, op := Op.fieldAddr 51 (Operand.tmp 1) 5, guard := none },
                          { dst := some 140, op := Op.indexAddr 48 (Operand.tmp 139) (Operand.const (Value.int IntKind.i64 (Int.ofNat 4))), guard := none, bef := [13] },
                          { dst := some 141, op := Op.load 5 (Operand.tmp 140), guard := none, bef := [14, 13] },
                          { dst := some 142, op := Op.binOp BinOp.rem 5 (Operand.tmp 141) (Operand.const (Value.int IntKind.u8 (Int.ofNat 20))) 5, guard := none, bef := [15, 14, 13] },
                          { dst := some 143, op := Op.convert 5 3 (Operand.tmp 142), guard := none, bef := [16, 15, 14, 13] },
                          { dst := some 144, op := Op.binOp BinOp.add 3 (Operand.tmp 138) (Operand.tmp 143) 3, guard := none, bef := [12, 5, 1, 0, 4, 3, 2, 11, 8, 7, 6, 10, 9, 17, 16, 15, 14, 13] },
                          { dst := some 145, op := Op.fieldAddr 26 (Operand.tmp 5) 6, guard := none, bef := [0, 1, 2, 3, 4, 5, 6, 7, 8, 9, 10, 11, 12, 13, 14, 15, 16, 17, 18] },
                          { dst := none, op := Op.store 3 (Operand.tmp 145) (Operand.tmp 144), guard := none, bef := [19, 0, 1, 2, 3, 4, 5, 6, 7, 8, 9, 10, 11, 12, 13, 14, 15, 16, 17, 18] }]).seq
                    (((IC.ops [{ dst := some 7, op := Op.assign (Operand.const (Value.int IntKind.i64 (Int.ofNat 0))), guard := none }]).seq
                          (IC.block 0
                            (((IC.ops
                                        [{ dst := some 146, op := Op.move (Operand.tmp 7), guard := none }, { dst := some 147, op := Op.fieldAddr 51 (Operand.tmp 1) 0, guard := none },
                                          { dst := some 148, op := Op.load 5 (Operand.tmp 147), guard := none },
                                          { dst := some 149, op := Op.binOp BinOp.rem 5 (Operand.tmp 148) (Operand.const (Value.int IntKind.u8 (Int.ofNat 5))) 5, guard := none },
                                          { dst := some 150, op := Op.convert 5 3 (Operand.tmp 149), guard := none },
                                          { dst := some 151, op := Op.binOp BinOp.add 3 (Operand.const (Value.int IntKind.i64 (Int.ofNat 2))) (Operand.tmp 150) 3, guard := none },
                                          { dst := some 152, op := Op.binOp BinOp.lss 3 (Operand.tmp 146) (Operand.tmp 151) 3, guard := none }]).seq
                                    (IC.cond (Operand.tmp 152) IC.skip (IC.exit 0))).seq
                                ((IC.block 1
                                      ((IC.ops
                                            [{ dst := some 155, op := Op.fieldAddr 26 (Operand.tmp 5) 0, guard := none }, { dst := some 156, op := Op.load 22 (Operand.tmp 155), guard := none },
                                              { dst := some 157, op := Op.move (Operand.tmp 7), guard := none }, { dst := some 158, op := Op.fieldAddr 26 (Operand.tmp 5) 6, guard := none },
                                              { dst := some 159, op := Op.load 3 (Operand.tmp 158), guard := none },
                                              { dst := some 160, op := Op.binOp BinOp.mul 3 (Operand.const (Value.int IntKind.i64 (Int.ofNat 2))) (Operand.tmp 159) 3, guard := none },
                                              { dst := some 161, op := Op.fieldAddr 26 (Operand.tmp 5) 7, guard := none },
                                              { dst := some 162, op := Op.fieldAddr 24 (Operand.tmp 161) 1, guard := none }, { dst := some 163, op := Op.load 3 (Operand.tmp 162), guard := none },
                                              { dst := some 164, op := Op.binOp BinOp.add 3 (Operand.tmp 160) (Operand.tmp 163) 3, guard := none },
                                              { dst := some 165, op := Op.binOp BinOp.add 3 (Operand.tmp 164) (Operand.const (Value.int IntKind.i64 (Int.ofNat 1))) 3, guard := none },
                                              { dst := some 166, op := Op.fieldAddr 51 (Operand.tmp 1) 6, guard := none }, { dst := some 167, op := Op.load 49 (Operand.tmp 166), guard := none },
                                              { dst := some 168, op := Op.binOp BinOp.rem 49 (Operand.tmp 167) (Operand.const (Value.int IntKind.u16 (Int.ofNat 200))) 49, guard := none },
                                              { dst := some 169, op := Op.convert 49 3 (Operand.tmp 168), guard := none },
                                              { dst := some 170, op := Op.binOp BinOp.add 3 (Operand.tmp 165) (Operand.tmp 169) 3, guard := none },
                                              { dst := some 171, op := Op.binOp BinOp.mul 3 (Operand.tmp 157) (Operand.tmp 170) 3, guard := none },
                                              { dst := some 172, op := Op.buildSlice 22 1 { toList := [(0, Operand.tmp 171)] }, guard := none },
                                              { dst := some 173,
                                                op := Op.call { callee := Callee.builtin Builtin.append, args := { toList := [Operand.tmp 156, Operand.tmp 172] }, argTypes := { toList := [22, 22] } },
                                                guard := none },
                                              { dst := some 174, op := Op.fieldAddr 26 (Operand.tmp 5) 0, guard := none },
                                              { dst := none, op := Op.store 22 (Operand.tmp 174) (Operand.tmp 173), guard := none }]).seq
                                        (IC.opsD
                                          [{ dst := some 175, op := Op.fieldAddr 26 (Operand.tmp 5) 1, guard := none },
                                            { dst := some 176, op := Op.load 22 (Operand.tmp 175), guard := none, bef := [0] },
                                            { dst := some 177, op := Op.fieldAddr 51 (Operand.tmp 1) 15, guard := none },
                                            { dst := some 178, op := Op.load 49 (Operand.tmp 177), guard := none, bef := [2] }, { dst := some 179, op := Op.move (Operand.tmp 7), guard := none },
                                            { dst := some 180, op := Op.binOp BinOp.mul 3 (Operand.const (Value.int IntKind.i64 (Int.ofNat 2))) (Operand.tmp 179) 3, guard := none, bef := [4] },
                                            { dst := some 181, op := Op.binOp BinOp.shr 49 (Operand.tmp 178) (Operand.tmp 180) 3, guard := none, bef := [3, 2, 5, 4] },
                                            { dst := some 182, op := Op.convert 49 3 (Operand.tmp 181), guard := none, bef := [6, 3, 2, 5, 4] },
                                            { dst := some 183, op := Op.binOp BinOp.rem 3 (Operand.tmp 182) (Operand.const (Value.int IntKind.i64 (Int.ofNat 3))) 3, guard := none,
                                              bef := [7, 6, 3, 2, 5, 4] },
                                            { dst := some 184, op := Op.binOp BinOp.add 3 (Operand.const (Value.int IntKind.i64 (Int.ofNat 1))) (Operand.tmp 183) 3, guard := none,
                                              bef := [8, 7, 6, 3, 2, 5, 4] },
                                            { dst := some 185, op := Op.buildSlice 22 1 { toList := [(0, Operand.tmp 184)] }, guard := none, bef := [9, 8, 7, 6, 3, 2, 5, 4] },
                                            { dst := some 186,
                                              op := Op.call { callee := Callee.builtin Builtin.append, args := { toList := [Operand.tmp 176, Operand.tmp 185] }, argTypes := { toList := [22, 22] } },
                                              guard := none, bef := [1, 0, 10, 9, 8, 7, 6, 3, 2, 5, 4] },
                                            { dst := some 187, op := Op.fieldAddr 26 (Operand.tmp 5) 1, guard := none, bef := [0, 1, 2, 3, 4, 5, 6, 7, 8, 9, 10, 11] },
                                            { dst := none, op := Op.store 22 (Operand.tmp 187) (Operand.tmp 186), guard := none, bef := [12, 0, 1, 2, 3, 4, 5, 6, 7, 8, 9, 10, 11] }]))).seq
                                  (IC.ops
                                    [{ dst := some 153, op := Op.move (Operand.tmp 7), guard := none },
                                      { dst := some 154, op := Op.binOp BinOp.add 3 (Operand.tmp 153) (Operand.const (Value.int IntKind.i64 (Int.ofNat 1))) 3, guard := none },
                                      { dst := some 7, op := Op.assign (Operand.tmp 154), guard := none }]))).loop)).seq
                      ((IC.ops
                            [{ dst := some 188, op := Op.fieldAddr 51 (Operand.tmp 1) 7, guard := none }, { dst := some 189, op := Op.load 5 (Operand.tmp 188), guard := none },
                              { dst := some 190, op := Op.binOp BinOp.rem 5 (Operand.tmp 189) (Operand.const (Value.int IntKind.u8 (Int.ofNat 5))) 5, guard := none },
                              { dst := some 191, op := Op.convert 5 3 (Operand.tmp 190), guard := none }, { dst := some 192, op := Op.fieldAddr 26 (Operand.tmp 5) 11, guard := none },
                              { dst := none, op := Op.store 3 (Operand.tmp 192) (Operand.tmp 191), guard := none }]).seq
                        ((IC.ops
                              [{ dst := some 193, op := Op.fieldAddr 26 (Operand.tmp 5) 11, guard := none }, { dst := some 194, op := Op.load 3 (Operand.tmp 193), guard := none },
                                { dst := some 195, op := Op.binOp BinOp.add 3 (Operand.tmp 194) (Operand.const (Value.int IntKind.i64 (Int.ofNat 1))) 3, guard := none },
                                { dst := some 196, op := Op.fieldAddr 51 (Operand.tmp 1) 8, guard := none }, { dst := some 197, op := Op.load 5 (Operand.tmp 196), guard := none },
                                { dst := some 198, op := Op.binOp BinOp.rem 5 (Operand.tmp 197) (Operand.const (Value.int IntKind.u8 (Int.ofNat 4))) 5, guard := none },
                                { dst := some 199, op := Op.convert 5 3 (Operand.tmp 198), guard := none },
                                { dst := some 200, op := Op.binOp BinOp.add 3 (Operand.tmp 195) (Operand.tmp 199) 3, guard := none },
                                { dst := some 201, op := Op.fieldAddr 26 (Operand.tmp 5) 12, guard := none }, { dst := none, op := Op.store 3 (Operand.tmp 201) (Operand.tmp 200), guard := none }]).seq
                          ((IC.opsD
                                [{ dst := some 202, op := Op.fieldAddr 51 (Operand.tmp 1) 10, guard := none }, { dst := some 203, op := Op.load 49 (Operand.tmp 202), guard := none, bef := [0] },
                                  { dst := some 204, op := Op.convert 49 3 (Operand.tmp 203), guard := none, bef := [1, 0] },
                                  { dst := some 205, op := Op.binOp BinOp.add 3 (Operand.const (Value.int IntKind.i64 (Int.ofNat 1))) (Operand.tmp 204) 3, guard := none, bef := [2, 1, 0] },
                                  { dst := some 206, op := Op.fieldAddr 51 (Operand.tmp 1) 11, guard := none }, { dst := some 207, op := Op.load 49 (Operand.tmp 206), guard := none, bef := [4] },
                                  { dst := some 208, op := Op.convert 49 3 (Operand.tmp 207), guard := none, bef := [5, 4] },
                                  { dst := some 209, op := Op.binOp BinOp.add 3 (Operand.const (Value.int IntKind.i64 (Int.ofNat 1))) (Operand.tmp 208) 3, guard := none, bef := [6, 5, 4] },
                                  { dst := some 210, op := Op.fieldAddr 51 (Operand.tmp 1) 12, guard := none }, { dst := some 211, op := Op.load 49 (Operand.tmp 210), guard := none, bef := [8] },
                                  { dst := some 212, op := Op.binOp BinOp.rem 49 (Operand.tmp 211) (Operand.const (Value.int IntKind.u16 (Int.ofNat 300))) 49, guard := none, bef := [9, 8] },
                                  { dst := some 213, op := Op.convert 49 3 (Operand.tmp 212), guard := none, bef := [10, 9, 8] },
                                  { dst := some 214, op := Op.binOp BinOp.add 3 (Operand.const (Value.int IntKind.i64 (Int.ofNat 1))) (Operand.tmp 213) 3, guard := none, bef := [11, 10, 9, 8] },
                                  { dst := some 215, op := Op.fieldAddr 26 (Operand.tmp 5) 14, guard := none, bef := [0, 1, 2, 3] },
                                  { dst := none, op := Op.store 3 (Operand.tmp 215) (Operand.tmp 205), guard := none, bef := [13, 0, 1, 2, 3] },
                                  { dst := some 216, op := Op.fieldAddr 26 (Operand.tmp 5) 16, guard := none, bef := [0, 1, 2, 3, 4, 5, 6, 7, 13, 14] },
                                  { dst := none, op := Op.store 3 (Operand.tmp 216) (Operand.tmp 209), guard := none, bef := [15, 0, 1, 2, 3, 4, 5, 6, 7, 13, 14] },
                                  { dst := some 217, op := Op.fieldAddr 26 (Operand.tmp 5) 17, guard := none, bef := [0, 1, 2, 3, 4, 5, 6, 7, 8, 9, 10, 11, 12, 13, 14, 15, 16] },
                                  { dst := none, op := Op.store 3 (Operand.tmp 217) (Operand.tmp 214), guard := none, bef := [17, 0, 1, 2, 3, 4, 5, 6, 7, 8, 9, 10, 11, 12, 13, 14, 15, 16] }]).seq
                            ((IC.opsD
                                  [{ dst := some 218, op := Op.fieldAddr 51 (Operand.tmp 1) 13, guard := none }, { dst := some 219, op := Op.load 5 (Operand.tmp 218), guard := none, bef := [0] },
                                    { dst := some 220, op := Op.binOp BinOp.rem 5 (Operand.tmp 219) (Operand.const (Value.int IntKind.u8 (Int.ofNat 9))) 5, guard := none, bef := [1, 0] },
                                    { dst := some 221, op := Op.convert 5 3 (Operand.tmp 220), guard := none, bef := [2, 1, 0] },
                                    { dst := some 222, op := Op.binOp BinOp.add 3 (Operand.const (Value.int IntKind.i64 (Int.ofNat 1))) (Operand.tmp 221) 3, guard := none, bef := [3, 2, 1, 0] },
                                    { dst := some 223, op := Op.fieldAddr 51 (Operand.tmp 1) 14, guard := none }, { dst := some 224, op := Op.load 5 (Operand.tmp 223), guard := none, bef := [5] },
                                    { dst := some 225, op := Op.binOp BinOp.rem 5 (Operand.tmp 224) (Operand.const (Value.int IntKind.u8 (Int.ofNat 4))) 5, guard := none, bef := [6, 5] },
                                    { dst := some 226, op := Op.convert 5 3 (Operand.tmp 225), guard := none, bef := [7, 6, 5] },
                                    { dst := some 227, op := Op.binOp BinOp.add 3 (Operand.const (Value.int IntKind.i64 (Int.ofNat 1))) (Operand.tmp 226) 3, guard := none, bef := [8, 7, 6, 5] },
                                    { dst := some 228, op := Op.fieldAddr 26 (Operand.tmp 5) 15, guard := none, bef := [0, 1, 2, 3, 4] },
                                    { dst := none, op := Op.store 3 (Operand.tmp 228) (Operand.tmp 222), guard := none, bef := [10, 0, 1, 2, 3, 4] },
                                    { dst := some 229, op := Op.fieldAddr 26 (Operand.tmp 5) 18, guard := none, bef := [0, 1, 2, 3, 4, 5, 6, 7, 8, 9, 10, 11] },
                                    { dst := none, op := Op.store 3 (Operand.tmp 229) (Operand.tmp 227), guard := none, bef := [12, 0, 1, 2, 3, 4, 5, 6, 7, 8, 9, 10, 11] }]).seq
                              ((IC.ops [{ dst := some 230, op := Op.load 26 (Operand.tmp 5), guard := none }, { dst := none, op := Op.store 26 (Operand.tmp 2) (Operand.tmp 230), guard := none }]).seq
                                IC.ret)))))))))))))))
theorem ic20_eq : Try.f20.body.map comp = some ic20 := by kernel_rfl
theorem ic20_ok : Try.f20.body.map (okC Try.f20.ntmps) = some true := by kernel_rfl
theorem ic20_nm : (Try.f20.name != "runtime.NumGoroutine") = true := by kernel_rfl
@[simp] theorem ic20_n : Try.f20.ntmps = 231 := by kernel_rfl
@[simp] theorem ic20_r : Try.f20.results.toList = [ResultVar.cell 2 26] := by kernel_rfl

def ic21 : IC :=
  (IC.ops [{ dst := some 1, op := Op.box 26 (Operand.tmp 0), guard := none }, { dst := some 2, op := Op.assign (Operand.const (Value.bool false)), guard := none }]).seq
  (((IC.ops
            [{ dst := some 5, op := Op.fieldAddr 26 (Operand.tmp 1) 0, guard := none }, { dst := some 6, op := Op.load 22 (Operand.tmp 5), guard := none },
              { dst := some 7, op := Op.call { callee := Callee.builtin Builtin.len, args := { toList := [Operand.tmp 6] }, argTypes := { toList := [22] } }, guard := none },
              { dst := some 8, op := Op.binOp BinOp.gtr 3 (Operand.tmp 7) (Operand.const (Value.int IntKind.i64 (Int.ofNat 20))) 3, guard := none },
              { dst := some 9, op := Op.move (Operand.tmp 8), guard := none }, { dst := some 10, op := Op.fieldAddr 26 (Operand.tmp 1) 1, guard := some (some 9, false) },
              { dst := some 11, op := Op.load 22 (Operand.tmp 10), guard := some (some 9, false) },
              { dst := some 12, op := Op.call { callee := Callee.builtin Builtin.len, args := { toList := [Operand.tmp 11] }, argTypes := { toList := [22] } }, guard := some (some 9, false) },
              { dst := some 13, op := Op.binOp BinOp.gtr 3 (Operand.tmp 12) (Operand.const (Value.int IntKind.i64 (Int.ofNat 20))) 3, guard := some (some 9, false) },
              { dst := some 14, op := Op.pick (Operand.tmp 9) (Operand.const (Value.bool true)) (Operand.tmp 13), guard := none }]).seq
        (IC.cond (Operand.tmp 14) ((IC.ops [{ dst := some 2, op := Op.assign (Operand.const (Value.bool false)), guard := none }]).seq IC.ret) IC.skip)).seq
    ((IC.opsD
          [{ dst := some 15, op := Op.buildSlice 22 0 { toList := [] }, guard := none }, { dst := some 16, op := Op.fieldAddr 26 (Operand.tmp 1) 0, guard := none },
            { dst := some 17, op := Op.load 22 (Operand.tmp 16), guard := none, bef := [1] },
            { dst := some 18, op := Op.call { callee := Callee.builtin Builtin.append, args := { toList := [Operand.tmp 15, Operand.tmp 17] }, argTypes := { toList := [22, 22] } }, guard := none,
              bef := [0, 2, 1] },
            { dst := some 19, op := Op.fieldAddr 26 (Operand.tmp 1) 1, guard := none }, { dst := some 20, op := Op.load 22 (Operand.tmp 19), guard := none, bef := [4] },
            { dst := some 21, op := Op.call { callee := Callee.builtin Builtin.append, args := { toList := [Operand.tmp 18, Operand.tmp 20] }, argTypes := { toList := [22, 22] } }, guard := none,
              bef := [3, 0, 2, 1, 5, 4] },
            { dst := some 3, op := Op.assign (Operand.tmp 21), guard := none, bef := [6, 3, 0, 2, 1, 5, 4] }]).seq
      ((IC.ops
            [{ dst := some 22, op := Op.move (Operand.tmp 3), guard := none }, { dst := some 23, op := Op.fieldAddr 26 (Operand.tmp 1) 2, guard := none },
              { dst := some 24, op := Op.load 3 (Operand.tmp 23), guard := none }, { dst := some 25, op := Op.fieldAddr 26 (Operand.tmp 1) 3, guard := none },
              { dst := some 26, op := Op.load 3 (Operand.tmp 25), guard := none }, { dst := some 27, op := Op.fieldAddr 26 (Operand.tmp 1) 4, guard := none },
              { dst := some 28, op := Op.load 3 (Operand.tmp 27), guard := none }, { dst := some 29, op := Op.fieldAddr 26 (Operand.tmp 1) 5, guard := none },
              { dst := some 30, op := Op.load 3 (Operand.tmp 29), guard := none }, { dst := some 31, op := Op.fieldAddr 26 (Operand.tmp 1) 6, guard := none },
              { dst := some 32, op := Op.load 3 (Operand.tmp 31), guard := none }, { dst := some 33, op := Op.fieldAddr 26 (Operand.tmp 1) 7, guard := none },
              { dst := some 34, op := Op.fieldAddr 24 (Operand.tmp 33) 0, guard := none }, { dst := some 35, op := Op.load 3 (Operand.tmp 34), guard := none },
              { dst := some 36, op := Op.fieldAddr 26 (Operand.tmp 1) 7, guard := none }, { dst := some 37, op := Op.fieldAddr 24 (Operand.tmp 36) 1, guard := none },
              { dst := some 38, op := Op.load 3 (Operand.tmp 37), guard := none }, { dst := some 39, op := Op.fieldAddr 26 (Operand.tmp 1) 8, guard := none },
              { dst := some 40, op := Op.fieldAddr 24 (Operand.tmp 39) 0, guard := none }, { dst := some 41, op := Op.load 3 (Operand.tmp 40), guard := none },
              { dst := some 42, op := Op.fieldAddr 26 (Operand.tmp 1) 8, guard := none }, { dst := some 43, op := Op.fieldAddr 24 (Operand.tmp 42) 1, guard := none },
              { dst := some 44, op := Op.load 3 (Operand.tmp 43), guard := none }, { dst := some 45, op := Op.fieldAddr 26 (Operand.tmp 1) 9, guard := none },
              { dst := some 46, op := Op.load 3 (Operand.tmp 45), guard := none }, { dst := some 47, op := Op.fieldAddr 26 (Operand.tmp 1) 10, guard := none },
              { dst := some 48, op := Op.load 3 (Operand.tmp 47), guard := none }, { dst := some 49, op := Op.fieldAddr 26 (Operand.tmp 1) 11, guard := none },
              { dst := some 50, op := Op.load 3 (Operand.tmp 49), guard := none }, { dst := some 51, op := Op.fieldAddr 26 (Operand.tmp 1) 12, guard := none },
              { dst := some 52, op := Op.load 3 (Operand.tmp 51), guard := none }, { dst := some 53, op := Op.fieldAddr 26 (Operand.tmp 1) 13, guard := none },
              { dst := some 54, op := Op.load 3 (Operand.tmp 53), guard := none }, { dst := some 55, op := Op.fieldAddr 26 (Operand.tmp 1) 14, guard := none },
              { dst := some 56, op := Op.load 3 (Operand.tmp 55), guard := none }, { dst := some 57, op := Op.fieldAddr 26 (Operand.tmp 1) 15, guard := none },
              { dst := some 58, op := Op.load 3 (Operand.tmp 57), guard := none }, { dst := some 59, op := Op.fieldAddr 26 (Operand.tmp 1) 16, guard := none },
              { dst := some 60, op := Op.load 3 (Operand.tmp 59), guard := none }, { dst := some 61, op := Op.fieldAddr 26 (Operand.tmp 1) 17, guard := none },
              { dst := some 62, op := Op.load 3 (Operand.tmp 61), guard := none }, { dst := some 63, op := Op.fieldAddr 26 (Operand.tmp 1) 18, guard := none },
              { dst := some 64, op := Op.load 3 (Operand.tmp 63), guard := none },
              { dst := some 65,
                op :=
                  Op.buildSlice 22 19
                    {
                      toList :=
                        [(0, Operand.tmp 24), (1, Operand.tmp 26), (2, Operand.tmp 28), (3, Operand.tmp 30), (4, Operand.tmp 32), (5, Operand.tmp 35), (6, Operand.tmp 38), (7, Operand.tmp 41),
                          (8, Operand.tmp 44), (9, Operand.tmp 46), (10, Operand.tmp 48), (11, Operand.tmp 50), (12, Operand.tmp 52), (13, Operand.tmp 54), (14, Operand.tmp 56), (15, Operand.tmp 58),
                          (16, Operand.tmp 60), (17, Operand.tmp 62), (18, Operand.tmp 64)] },
                guard := none },
              { dst := some 66, op := Op.call { callee := Callee.builtin Builtin.append, args := { toList := [Operand.tmp 22, Operand.tmp 65] }, argTypes := { toList := [22, 22] } }, guard := none },
              { dst := some 3, op := Op.assign (Operand.tmp 66), guard := none }]).seq
        (((IC.ops
                  [{ dst := some 67, op := Op.move (Operand.tmp 3), guard := none },
                    { dst := some 68, op := Op.call { callee := Callee.builtin Builtin.len, args := { toList := [Operand.tmp 67] }, argTypes := { toList := [22] } }, guard := none },
                    { dst := some 69, op := Op.move (Operand.const (Value.int IntKind.i64 (Int.ofNat 0))), guard := none }]).seq
              (IC.block 0
                ((IC.ops [{ dst := some 70, op := Op.binOp BinOp.lss 3 (Operand.tmp 69) (Operand.tmp 68) 3, guard := none }]).seq
                    ((IC.cond (Operand.tmp 70) IC.skip (IC.exit 0)).seq
                      ((IC.block 1
                            ((IC.ops [{ dst := some 71, op := Op.move (Operand.tmp 69), guard := none }, { dst := some 4, op := Op.assign (Operand.tmp 71), guard := none }]).seq
                              ((IC.ops
                                    [{ dst := some 72, op := Op.move (Operand.tmp 3), guard := none }, { dst := some 73, op := Op.move (Operand.tmp 4), guard := none },
                                      { dst := some 74, op := Op.indexAddr 22 (Operand.tmp 72) (Operand.tmp 73), guard := none }, { dst := some 75, op := Op.load 3 (Operand.tmp 74), guard := none },
                                      { dst := some 76, op := Op.binOp BinOp.lss 3 (Operand.tmp 75) (Operand.const (Value.int IntKind.i64 (Int.negSucc 2147483647))) 3, guard := none },
                                      { dst := some 77, op := Op.move (Operand.tmp 76), guard := none }, { dst := some 78, op := Op.move (Operand.tmp 3), guard := some (some 77, false) },
                                      { dst := some 79, op := Op.move (Operand.tmp 4), guard := some (some 77, false) },
                                      { dst := some 80, op := Op.indexAddr 22 (Operand.tmp 78) (Operand.tmp 79), guard := some (some 77, false) },
                                      { dst := some 81, op := Op.load 3 (Operand.tmp 80), guard := some (some 77, false) },
                                      { dst := some 82, op := Op.binOp BinOp.gtr 3 (Operand.tmp 81) (Operand.const (Value.int IntKind.i64 (Int.ofNat 2147483648))) 3, guard := some (some 77, false) },
                                      { dst := some 83, op := Op.pick (Operand.tmp 77) (Operand.const (Value.bool true)) (Operand.tmp 82), guard := none }]).seq
                                (IC.cond (Operand.tmp 83) ((IC.ops [{ dst := some 2, op := Op.assign (Operand.const (Value.bool false)), guard := none }]).seq IC.ret) IC.skip)))).seq
                        (IC.ops
                          [{ dst := some 84, op := Op.binOp BinOp.add 3 (Operand.tmp 69) (Operand.const (Value.int IntKind.i64 (Int.ofNat 1))) 3, guard := none },
                            { dst := some 69, op := Op.move (Operand.tmp 84), guard := none }])))).loop)).seq
          ((IC.ops [{ dst := some 2, op := Op.assign (Operand.const (Value.bool true)), guard := none }]).seq IC.ret)))))
theorem ic21_eq : Try.f21.body.map comp = some ic21 := by kernel_rfl
theorem ic21_ok : Try.f21.body.map (okC Try.f21.ntmps) = some true := by kernel_rfl
theorem ic21_nm : (Try.f21.name != "runtime.NumGoroutine") = true := by kernel_rfl
@[simp] theorem ic21_n : Try.f21.ntmps = 85 := by kernel_rfl
@[simp] theorem ic21_r : Try.f21.results.toList = [ResultVar.tmp 2] := by kernel_rfl


end Go.Proofs.Ytmjhpniegjiocaa
