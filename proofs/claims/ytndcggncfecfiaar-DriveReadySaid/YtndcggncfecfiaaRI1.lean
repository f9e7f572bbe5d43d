/- Contracts of functions of the seat's program, and what follows of them: I1. Conditions are in each statement. -/
import Derived.Test.YtndcggncfecfiaaRRows
import Derived.Test.YtndcggncfecfiaaRV3
set_option linter.unusedSimpArgs false
set_option linter.unusedVariables false
namespace Go.Proofs.YtndcggncfecfiaaR
open Go Go.Proofs Go.Vm

def ic3 : IC :=
  (IC.ops [{ dst := some 2, op := Op.box 25 (Operand.tmp 0), guard := none }, { dst := some 4, op := Op.assign (Operand.const (Value.bool false)), guard := none }]).seq
  (((IC.ops
            [{ dst := some 10, op := Op.call { callee := Callee.value (Operand.func 4), args := { toList := [] }, argTypes := { toList := [] } }, guard := none },
              { dst := some 11, op := Op.unOp UnOp.not 4 (Operand.tmp 10), guard := none }]).seq
        (IC.cond (Operand.tmp 11) ((IC.ops [{ dst := some 4, op := Op.assign (Operand.const (Value.bool false)), guard := none }]).seq IC.ret) IC.skip)).seq
    ((IC.ops
          [{ dst := some 12, op := Op.load 25 (Operand.tmp 2), guard := none },
            { dst := some 13, op := Op.call { callee := Callee.value (Operand.func 5), args := { toList := [Operand.tmp 12] }, argTypes := { toList := [25] } }, guard := none },
            { dst := some 5, op := Op.alloc 31, guard := none }, { dst := none, op := Op.store 31 (Operand.tmp 5) (Operand.tmp 13), guard := none }]).seq
      ((IC.ops
            [{ dst := some 14, op := Op.load 31 (Operand.tmp 5), guard := none },
              { dst := some 15, op := Op.call { callee := Callee.value (Operand.func 6), args := { toList := [Operand.tmp 14] }, argTypes := { toList := [31] } }, guard := none },
              { dst := some 6, op := Op.assign (Operand.tmp 15), guard := none }]).seq
        ((IC.ops [{ dst := some 7, op := Op.assign (Operand.const (Value.int IntKind.i64 (Int.ofNat 1))), guard := none }]).seq
          (((IC.ops [{ dst := some 16, op := Op.move (Operand.tmp 1), guard := none }]).seq
                (IC.cond (Operand.tmp 16) (IC.ops [{ dst := some 7, op := Op.assign (Operand.const (Value.int IntKind.i64 (Int.ofNat 2))), guard := none }]) IC.skip)).seq
            (((IC.ops
                      [{ dst := some 17, op := Op.fieldAddr 31 (Operand.tmp 5) 14, guard := none }, { dst := some 18, op := Op.load 3 (Operand.tmp 17), guard := none },
                        { dst := some 19,
                          op :=
                            Op.call
                              { callee := Callee.builtin Builtin.min, args := { toList := [Operand.const (Value.int IntKind.i64 (Int.ofNat 400)), Operand.tmp 18] }, argTypes := { toList := [3, 3] } },
                          guard := none },
                        { dst := some 20, op := Op.move (Operand.const (Value.int IntKind.i64 (Int.ofNat 0))), guard := none }]).seq
                  (IC.block 0
                    ((IC.ops [{ dst := some 21, op := Op.binOp BinOp.lss 3 (Operand.tmp 20) (Operand.tmp 19) 3, guard := none }]).seq
                        ((IC.cond (Operand.tmp 21) IC.skip (IC.exit 0)).seq
                          ((IC.block 1
                                ((IC.ops [{ dst := some 22, op := Op.move (Operand.tmp 20), guard := none }, { dst := some 8, op := Op.assign (Operand.tmp 22), guard := none }]).seq
                                  ((IC.ops
                                        [{ dst := some 23, op := Op.move (Operand.tmp 6), guard := none }, { dst := some 24, op := Op.move (Operand.tmp 7), guard := none },
                                          { dst := some 25,
                                            op := Op.call { callee := Callee.value (Operand.func 7), args := { toList := [Operand.tmp 23, Operand.tmp 24] }, argTypes := { toList := [33, 3] } },
                                            guard := none },
                                          { dst := some 9, op := Op.alloc 37, guard := none }, { dst := none, op := Op.store 37 (Operand.tmp 9) (Operand.tmp 25), guard := none }]).seq
                                    ((IC.ops
                                          [{ dst := some 26, op := Op.fieldAddr 37 (Operand.tmp 9) 0, guard := none }, { dst := some 27, op := Op.load 3 (Operand.tmp 26), guard := none },
                                            { dst := some 28, op := Op.move (Operand.tmp 7), guard := none },
                                            { dst := some 29, op := Op.binOp BinOp.eql 3 (Operand.tmp 27) (Operand.tmp 28) 3, guard := none },
                                            { dst := some 30, op := Op.move (Operand.tmp 8), guard := none }, { dst := some 31, op := Op.fieldAddr 31 (Operand.tmp 5) 13, guard := none },
                                            { dst := some 32, op := Op.load 3 (Operand.tmp 31), guard := none },
                                            { dst := some 33, op := Op.binOp BinOp.gtr 3 (Operand.tmp 30) (Operand.tmp 32) 3, guard := none },
                                            { dst := some 34, op := Op.binOp BinOp.neq 4 (Operand.tmp 29) (Operand.tmp 33) 4, guard := none },
                                            { dst := some 35, op := Op.move (Operand.tmp 34), guard := none },
                                            { dst := some 36, op := Op.fieldAddr 37 (Operand.tmp 9) 2, guard := some (some 35, false) },
                                            { dst := some 37, op := Op.load 4 (Operand.tmp 36), guard := some (some 35, false) },
                                            { dst := some 38, op := Op.unOp UnOp.not 4 (Operand.tmp 37), guard := some (some 35, false) },
                                            { dst := some 39, op := Op.pick (Operand.tmp 35) (Operand.const (Value.bool true)) (Operand.tmp 38), guard := none },
                                            { dst := some 40, op := Op.move (Operand.tmp 39), guard := none }, { dst := some 41, op := Op.move (Operand.tmp 6), guard := some (some 40, false) },
                                            { dst := some 42, op := Op.call { callee := Callee.value (Operand.func 8), args := { toList := [Operand.tmp 41] }, argTypes := { toList := [33] } },
                                              guard := some (some 40, false) },
                                            { dst := some 43, op := Op.pick (Operand.tmp 40) (Operand.const (Value.bool true)) (Operand.tmp 42), guard := none },
                                            { dst := some 44, op := Op.move (Operand.tmp 43), guard := none }, { dst := some 45, op := Op.move (Operand.tmp 6), guard := some (some 44, false) },
                                            { dst := some 46, op := Op.call { callee := Callee.value (Operand.func 9), args := { toList := [Operand.tmp 45] }, argTypes := { toList := [33] } },
                                              guard := some (some 44, false) },
                                            { dst := some 47, op := Op.pick (Operand.tmp 44) (Operand.const (Value.bool true)) (Operand.tmp 46), guard := none }]).seq
                                      (IC.cond (Operand.tmp 47) ((IC.ops [{ dst := some 4, op := Op.assign (Operand.const (Value.bool false)), guard := none }]).seq IC.ret) IC.skip))))).seq
                            (IC.ops
                              [{ dst := some 48, op := Op.binOp BinOp.add 3 (Operand.tmp 20) (Operand.const (Value.int IntKind.i64 (Int.ofNat 1))) 3, guard := none },
                                { dst := some 20, op := Op.move (Operand.tmp 48), guard := none }])))).loop)).seq
              ((IC.ops
                    [{ dst := some 49, op := Op.fieldAddr 31 (Operand.tmp 5) 14, guard := none }, { dst := some 50, op := Op.load 3 (Operand.tmp 49), guard := none },
                      { dst := some 51, op := Op.binOp BinOp.gtr 3 (Operand.tmp 50) (Operand.const (Value.int IntKind.i64 (Int.ofNat 400))) 3, guard := none },
                      { dst := some 52, op := Op.move (Operand.tmp 51), guard := none }, { dst := some 53, op := Op.move (Operand.tmp 6), guard := some (some 52, false) },
                      { dst := some 54, op := Op.move (Operand.tmp 7), guard := some (some 52, false) },
                      { dst := some 55, op := Op.call { callee := Callee.value (Operand.func 7), args := { toList := [Operand.tmp 53, Operand.tmp 54] }, argTypes := { toList := [33, 3] } },
                        guard := some (some 52, false) },
                      { dst := some 56, op := Op.build 37 { toList := [] }, guard := some (some 52, false) },
                      { dst := some 57, op := Op.binOp BinOp.eql 37 (Operand.tmp 55) (Operand.tmp 56) 37, guard := some (some 52, false) },
                      { dst := some 58, op := Op.move (Operand.tmp 57), guard := some (some 52, false) }, { dst := some 59, op := Op.move (Operand.tmp 6), guard := some (some 58, true) },
                      { dst := some 60, op := Op.call { callee := Callee.value (Operand.func 8), args := { toList := [Operand.tmp 59] }, argTypes := { toList := [33] } },
                        guard := some (some 58, true) },
                      { dst := some 61, op := Op.pick (Operand.tmp 58) (Operand.tmp 60) (Operand.const (Value.bool false)), guard := some (some 52, false) },
                      { dst := some 62, op := Op.pick (Operand.tmp 52) (Operand.const (Value.bool true)) (Operand.tmp 61), guard := none },
                      { dst := some 4, op := Op.assign (Operand.tmp 62), guard := none }]).seq
                IC.ret)))))))
theorem ic3_eq : Try.f3.body.map comp = some ic3 := by kernel_rfl
theorem ic3_ok : Try.f3.body.map (okC Try.f3.ntmps) = some true := by kernel_rfl
theorem ic3_nm : (Try.f3.name != "runtime.NumGoroutine") = true := by kernel_rfl
@[simp] theorem ic3_n : Try.f3.ntmps = 63 := by kernel_rfl
@[simp] theorem ic3_r : Try.f3.results.toList = [ResultVar.tmp 4] := by kernel_rfl

def ic4 : IC :=
  (IC.ops [{ dst := some 0, op := Op.assign (Operand.const (Value.bool false)), guard := none }]).seq
  ((IC.ops
        [{ dst := some 5,
            op :=
              Op.build 25
                {
                  toList :=
                    [(9, Operand.const (Value.int IntKind.u8 (Int.ofNat 1))), (10, Operand.const (Value.int IntKind.u16 (Int.ofNat 9))), (11, Operand.const (Value.int IntKind.u16 (Int.ofNat 9)))] },
            guard := none },
          { dst := some 6, op := Op.call { callee := Callee.value (Operand.func 5), args := { toList := [Operand.tmp 5] }, argTypes := { toList := [25] } }, guard := none },
          { dst := some 7, op := Op.call { callee := Callee.value (Operand.func 6), args := { toList := [Operand.tmp 6] }, argTypes := { toList := [31] } }, guard := none },
          { dst := some 1, op := Op.assign (Operand.tmp 7), guard := none }]).seq
    ((IC.ops
          [{ dst := some 8, op := Op.move (Operand.tmp 1), guard := none },
            { dst := some 9,
              op := Op.call { callee := Callee.value (Operand.func 7), args := { toList := [Operand.tmp 8, Operand.const (Value.int IntKind.i64 (Int.ofNat 1))] }, argTypes := { toList := [33, 3] } },
              guard := none },
            { dst := some 10, op := Op.move (Operand.tmp 1), guard := none },
            { dst := some 11,
              op := Op.call { callee := Callee.value (Operand.func 7), args := { toList := [Operand.tmp 10, Operand.const (Value.int IntKind.i64 (Int.ofNat 1))] }, argTypes := { toList := [33, 3] } },
              guard := none },
            { dst := some 12, op := Op.move (Operand.tmp 1), guard := none },
            { dst := some 13,
              op := Op.call { callee := Callee.value (Operand.func 7), args := { toList := [Operand.tmp 12, Operand.const (Value.int IntKind.i64 (Int.ofNat 1))] }, argTypes := { toList := [33, 3] } },
              guard := none },
            { dst := some 2, op := Op.alloc 37, guard := none }, { dst := some 3, op := Op.alloc 37, guard := none }, { dst := some 4, op := Op.alloc 37, guard := none },
            { dst := none, op := Op.store 37 (Operand.tmp 2) (Operand.tmp 9), guard := none }, { dst := none, op := Op.store 37 (Operand.tmp 3) (Operand.tmp 11), guard := none },
            { dst := none, op := Op.store 37 (Operand.tmp 4) (Operand.tmp 13), guard := none }]).seq
      ((IC.ops
            [{ dst := some 14, op := Op.load 37 (Operand.tmp 2), guard := none },
              { dst := some 15, op := Op.build 37 { toList := [(2, Operand.const (Value.bool true)), (3, Operand.const (Value.bool true))] }, guard := none },
              { dst := some 16, op := Op.binOp BinOp.eql 37 (Operand.tmp 14) (Operand.tmp 15) 37, guard := none }, { dst := some 17, op := Op.move (Operand.tmp 16), guard := none },
              { dst := some 18, op := Op.load 37 (Operand.tmp 3), guard := some (some 17, true) },
              { dst := some 19, op := Op.build 37 { toList := [(2, Operand.const (Value.bool true))] }, guard := some (some 17, true) },
              { dst := some 20, op := Op.binOp BinOp.eql 37 (Operand.tmp 18) (Operand.tmp 19) 37, guard := some (some 17, true) },
              { dst := some 21, op := Op.pick (Operand.tmp 17) (Operand.tmp 20) (Operand.const (Value.bool false)), guard := none }, { dst := some 22, op := Op.move (Operand.tmp 21), guard := none },
              { dst := some 23, op := Op.load 37 (Operand.tmp 4), guard := some (some 22, true) },
              { dst := some 24, op := Op.build 37 { toList := [(0, Operand.const (Value.int IntKind.i64 (Int.ofNat 1))), (2, Operand.const (Value.bool true)), (4, Operand.const (Value.bool true))] },
                guard := some (some 22, true) },
              { dst := some 25, op := Op.binOp BinOp.eql 37 (Operand.tmp 23) (Operand.tmp 24) 37, guard := some (some 22, true) },
              { dst := some 26, op := Op.pick (Operand.tmp 22) (Operand.tmp 25) (Operand.const (Value.bool false)), guard := none }, { dst := some 27, op := Op.move (Operand.tmp 26), guard := none },
              { dst := some 28, op := Op.move (Operand.tmp 1), guard := some (some 27, true) },
              { dst := some 29,
                op :=
                  Op.call { callee := Callee.value (Operand.func 7), args := { toList := [Operand.tmp 28, Operand.const (Value.int IntKind.i64 (Int.ofNat 4))] }, argTypes := { toList := [33, 3] } },
                guard := some (some 27, true) },
              { dst := some 30, op := Op.build 37 { toList := [(0, Operand.const (Value.int IntKind.i64 (Int.ofNat 4)))] }, guard := some (some 27, true) },
              { dst := some 31, op := Op.binOp BinOp.eql 37 (Operand.tmp 29) (Operand.tmp 30) 37, guard := some (some 27, true) },
              { dst := some 32, op := Op.pick (Operand.tmp 27) (Operand.tmp 31) (Operand.const (Value.bool false)), guard := none },
              { dst := some 0, op := Op.assign (Operand.tmp 32), guard := none }]).seq
        IC.ret)))
theorem ic4_eq : Try.f4.body.map comp = some ic4 := by kernel_rfl
theorem ic4_ok : Try.f4.body.map (okC Try.f4.ntmps) = some true := by kernel_rfl
theorem ic4_nm : (Try.f4.name != "runtime.NumGoroutine") = true := by kernel_rfl
@[simp] theorem ic4_n : Try.f4.ntmps = 33 := by kernel_rfl
@[simp] theorem ic4_r : Try.f4.results.toList = [ResultVar.tmp 0] := by kernel_rfl

def ic5 : IC :=
  (IC.ops [{ dst := some 1, op := Op.box 25 (Operand.tmp 0), guard := none }, { dst := some 2, op := Op.alloc 31, guard := none }]).seq
  ((IC.opsD
        [{ dst := some 8, op := Op.fieldAddr 25 (Operand.tmp 1) 1, guard := none }, { dst := some 9, op := Op.load 5 (Operand.tmp 8), guard := none, bef := [0] },
          { dst := some 10, op := Op.binOp BinOp.rem 5 (Operand.tmp 9) (Operand.const (Value.int IntKind.u8 (Int.ofNat 9))) 5, guard := none, bef := [1, 0] },
          { dst := some 11, op := Op.convert 5 3 (Operand.tmp 10), guard := none, bef := [2, 1, 0] },
          { dst := some 12, op := Op.binOp BinOp.add 3 (Operand.const (Value.int IntKind.i64 (Int.ofNat 2))) (Operand.tmp 11) 3, guard := none, bef := [3, 2, 1, 0] },
          { dst := some 13, op := Op.fieldAddr 25 (Operand.tmp 1) 2, guard := none }, { dst := some 14, op := Op.load 5 (Operand.tmp 13), guard := none, bef := [5] },
          { dst := some 15, op := Op.binOp BinOp.rem 5 (Operand.tmp 14) (Operand.const (Value.int IntKind.u8 (Int.ofNat 30))) 5, guard := none, bef := [6, 5] },
          { dst := some 16, op := Op.convert 5 3 (Operand.tmp 15), guard := none, bef := [7, 6, 5] }, { dst := some 3, op := Op.assign (Operand.tmp 12), guard := none, bef := [4, 3, 2, 1, 0] },
          { dst := some 4, op := Op.assign (Operand.tmp 16), guard := none, bef := [8, 7, 6, 5, 9, 4, 3, 2, 1, 0] }]).seq
    ((IC.opsD
          [{ dst := some 17, op := Op.move (Operand.tmp 3), guard := none }, { dst := some 18, op := Op.move (Operand.tmp 3), guard := none },
            { dst := some 19, op := Op.fieldAddr 25 (Operand.tmp 1) 1, guard := none }, { dst := some 20, op := Op.load 5 (Operand.tmp 19), guard := none, bef := [2] },
            { dst := some 21, op := Op.binOp BinOp.quo 5 (Operand.tmp 20) (Operand.const (Value.int IntKind.u8 (Int.ofNat 9))) 5, guard := none, bef := [3, 2] },
            { dst := some 22, op := Op.binOp BinOp.rem 5 (Operand.tmp 21) (Operand.const (Value.int IntKind.u8 (Int.ofNat 4))) 5, guard := none, bef := [4, 3, 2] },
            { dst := some 23, op := Op.convert 5 3 (Operand.tmp 22), guard := none, bef := [5, 4, 3, 2] },
            { dst := some 24, op := Op.binOp BinOp.add 3 (Operand.tmp 18) (Operand.tmp 23) 3, guard := none, bef := [1, 6, 5, 4, 3, 2] },
            { dst := some 25, op := Op.build 29 { toList := [(0, Operand.tmp 17), (1, Operand.tmp 24)] }, guard := none, bef := [0, 7, 1, 6, 5, 4, 3, 2] },
            { dst := some 26, op := Op.fieldAddr 25 (Operand.tmp 1) 3, guard := none }, { dst := some 27, op := Op.load 5 (Operand.tmp 26), guard := none, bef := [9] },
            { dst := some 28, op := Op.binOp BinOp.rem 5 (Operand.tmp 27) (Operand.const (Value.int IntKind.u8 (Int.ofNat 12))) 5, guard := none, bef := [10, 9] },
            { dst := some 29, op := Op.convert 5 3 (Operand.tmp 28), guard := none, bef := [11, 10, 9] },
            { dst := some 30, op := Op.binOp BinOp.add 3 (Operand.const (Value.int IntKind.i64 (Int.ofNat 1))) (Operand.tmp 29) 3, guard := none, bef := [12, 11, 10, 9] },
            { dst := some 31, op := Op.fieldAddr 25 (Operand.tmp 1) 4, guard := none }, { dst := some 32, op := Op.load 5 (Operand.tmp 31), guard := none, bef := [14] },
            { dst := some 33, op := Op.convert 5 3 (Operand.tmp 32), guard := none, bef := [15, 14] }, { dst := some 34, op := Op.move (Operand.tmp 3), guard := none },
            { dst := some 35, op := Op.binOp BinOp.rem 3 (Operand.tmp 33) (Operand.tmp 34) 3, guard := none, bef := [16, 15, 14, 17] },
            { dst := some 36, op := Op.fieldAddr 25 (Operand.tmp 1) 9, guard := none }, { dst := some 37, op := Op.load 5 (Operand.tmp 36), guard := none, bef := [19] },
            { dst := some 38, op := Op.binOp BinOp.rem 5 (Operand.tmp 37) (Operand.const (Value.int IntKind.u8 (Int.ofNat 12))) 5, guard := none, bef := [20, 19] },
            { dst := some 39, op := Op.convert 5 3 (Operand.tmp 38), guard := none, bef := [21, 20, 19] },
            { dst := some 40, op := Op.build 31 { toList := [(8, Operand.tmp 25), (10, Operand.tmp 30), (9, Operand.tmp 35), (13, Operand.tmp 39)] }, guard := none,
              bef := [8, 0, 7, 1, 6, 5, 4, 3, 2, 13, 12, 11, 10, 9, 18, 16, 15, 14, 17, 22, 21, 20, 19] },
            { dst := some 5, op := Op.alloc 31, guard := none },
            { dst := none, op := Op.store 31 (Operand.tmp 5) (Operand.tmp 40), guard := none, bef := [24, 23, 8, 0, 7, 1, 6, 5, 4, 3, 2, 13, 12, 11, 10, 9, 18, 16, 15, 14, 17, 22, 21, 20, 19] }]).seq
      ((IC.ops
            [{ dst := some 41, op := Op.fieldAddr 31 (Operand.tmp 5) 8, guard := none }, { dst := some 42, op := Op.fieldAddr 29 (Operand.tmp 41) 1, guard := none },
              { dst := some 43, op := Op.load 3 (Operand.tmp 42), guard := none }, { dst := some 44, op := Op.move (Operand.tmp 4), guard := none },
              { dst := some 45, op := Op.binOp BinOp.add 3 (Operand.tmp 43) (Operand.tmp 44) 3, guard := none }, { dst := some 46, op := Op.fieldAddr 31 (Operand.tmp 5) 8, guard := none },
              { dst := some 47, op := Op.fieldAddr 29 (Operand.tmp 46) 1, guard := none }, { dst := some 48, op := Op.load 3 (Operand.tmp 47), guard := none },
              { dst := some 49, op := Op.move (Operand.tmp 4), guard := none }, { dst := some 50, op := Op.binOp BinOp.add 3 (Operand.tmp 48) (Operand.tmp 49) 3, guard := none },
              { dst := some 51, op := Op.fieldAddr 25 (Operand.tmp 1) 2, guard := none }, { dst := some 52, op := Op.load 5 (Operand.tmp 51), guard := none },
              { dst := some 53, op := Op.binOp BinOp.quo 5 (Operand.tmp 52) (Operand.const (Value.int IntKind.u8 (Int.ofNat 30))) 5, guard := none },
              { dst := some 54, op := Op.binOp BinOp.rem 5 (Operand.tmp 53) (Operand.const (Value.int IntKind.u8 (Int.ofNat 4))) 5, guard := none },
              { dst := some 55, op := Op.convert 5 3 (Operand.tmp 54), guard := none }, { dst := some 56, op := Op.binOp BinOp.add 3 (Operand.tmp 50) (Operand.tmp 55) 3, guard := none },
              { dst := some 57, op := Op.build 29 { toList := [(0, Operand.tmp 45), (1, Operand.tmp 56)] }, guard := none }, { dst := some 58, op := Op.fieldAddr 31 (Operand.tmp 5) 7, guard := none },
              { dst := none, op := Op.store 29 (Operand.tmp 58) (Operand.tmp 57), guard := none }]).seq
        ((IC.opsD
              [{ dst := some 59, op := Op.fieldAddr 31 (Operand.tmp 5) 8, guard := none }, { dst := some 60, op := Op.fieldAddr 29 (Operand.tmp 59) 1, guard := none, bef := [0] },
                { dst := some 61, op := Op.load 3 (Operand.tmp 60), guard := none, bef := [1, 0] }, { dst := some 62, op := Op.fieldAddr 31 (Operand.tmp 5) 8, guard := none },
                { dst := some 63, op := Op.fieldAddr 29 (Operand.tmp 62) 1, guard := none, bef := [3] }, { dst := some 64, op := Op.load 3 (Operand.tmp 63), guard := none, bef := [4, 3] },
                { dst := some 65, op := Op.fieldAddr 31 (Operand.tmp 5) 10, guard := none }, { dst := some 66, op := Op.load 3 (Operand.tmp 65), guard := none, bef := [6] },
                { dst := some 67, op := Op.call { callee := Callee.value (Operand.func 10), args := { toList := [Operand.tmp 64, Operand.tmp 66] }, argTypes := { toList := [3, 3] } }, guard := none,
                  bef := [5, 4, 3, 7, 6] },
                { dst := some 68, op := Op.binOp BinOp.add 3 (Operand.tmp 61) (Operand.tmp 67) 3, guard := none, bef := [2, 1, 0, 8, 5, 4, 3, 7, 6] },
                { dst := some 6, op := Op.assign (Operand.tmp 68), guard := none, bef := [9, 2, 1, 0, 8, 5, 4, 3, 7, 6] }]).seq
          ((IC.ops
                [{ dst := some 69, op := Op.move (Operand.tmp 6), guard := none }, { dst := some 70, op := Op.fieldAddr 25 (Operand.tmp 1) 5, guard := none },
                  { dst := some 71, op := Op.indexAddr 22 (Operand.tmp 70) (Operand.const (Value.int IntKind.i64 (Int.ofNat 0))), guard := none },
                  { dst := some 72, op := Op.load 5 (Operand.tmp 71), guard := none },
                  { dst := some 73, op := Op.binOp BinOp.rem 5 (Operand.tmp 72) (Operand.const (Value.int IntKind.u8 (Int.ofNat 8))) 5, guard := none },
                  { dst := some 74, op := Op.convert 5 3 (Operand.tmp 73), guard := none }, { dst := some 75, op := Op.binOp BinOp.add 3 (Operand.tmp 69) (Operand.tmp 74) 3, guard := none },
                  { dst := some 76, op := Op.fieldAddr 31 (Operand.tmp 5) 4, guard := none }, { dst := none, op := Op.store 3 (Operand.tmp 76) (Operand.tmp 75), guard := none }]).seq
            ((IC.ops
                  [{ dst := some 77, op := Op.fieldAddr 31 (Operand.tmp 5) 4, guard := none }, { dst := some 78, op := Op.load 3 (Operand.tmp 77), guard := none },
                    { dst := some 79, op := Op.fieldAddr 25 (Operand.tmp 1) 5, guard := none },
                    { dst := some 80, op := Op.indexAddr 22 (Operand.tmp 79) (Operand.const (Value.int IntKind.i64 (Int.ofNat 1))), guard := none },
                    { dst := some 81, op := Op.load 5 (Operand.tmp 80), guard := none },
                    { dst := some 82, op := Op.binOp BinOp.rem 5 (Operand.tmp 81) (Operand.const (Value.int IntKind.u8 (Int.ofNat 8))) 5, guard := none },
                    { dst := some 83, op := Op.convert 5 3 (Operand.tmp 82), guard := none }, { dst := some 84, op := Op.binOp BinOp.add 3 (Operand.tmp 78) (Operand.tmp 83) 3, guard := none },
                    { dst := some 85, op := Op.fieldAddr 31 (Operand.tmp 5) 5, guard := none }, { dst := none, op := Op.store 3 (Operand.tmp 85) (Operand.tmp 84), guard := none }]).seq
              ((IC.opsD
                    [{ dst := some 86, op := Op.fieldAddr 31 (Operand.tmp 5) 5, guard := none }, { dst := some 87, op := Op.load 3 (Operand.tmp 86), guard := none, bef := [0] },
                      { dst := some 88, op := Op.fieldAddr 31 (Operand.tmp 5) 9, guard := none }, { dst := some 89, op := Op.load 3 (Operand.tmp 88), guard := none, bef := [2] },
                      { dst := some 90, op := Op.fieldAddr 31 (Operand.tmp 5) 13, guard := none }, { dst := some 91, op := Op.load 3 (Operand.tmp 90), guard := none, bef := [4] },
                      { dst := some 92, op := Op.binOp BinOp.add 3 (Operand.tmp 91) (Operand.const (Value.int IntKind.i64 (Int.ofNat 4))) 3, guard := none, bef := [5, 4] },
                      { dst := some 93, op := Op.fieldAddr 31 (Operand.tmp 5) 8, guard := none }, { dst := some 94, op := Op.fieldAddr 29 (Operand.tmp 93) 1, guard := none, bef := [7] },
                      { dst := some 95, op := Op.load 3 (Operand.tmp 94), guard := none, bef := [8, 7] }, { dst := some 96, op := Op.fieldAddr 31 (Operand.tmp 5) 10, guard := none },
                      { dst := some 97, op := Op.load 3 (Operand.tmp 96), guard := none, bef := [10] },
                      { dst := some 98, op := Op.call { callee := Callee.value (Operand.func 11), args := { toList := [Operand.tmp 95, Operand.tmp 97] }, argTypes := { toList := [3, 3] } },
                        guard := none, bef := [9, 8, 7, 11, 10] },
                      { dst := some 99, op := Op.binOp BinOp.add 3 (Operand.tmp 92) (Operand.tmp 98) 3, guard := none, bef := [6, 5, 4, 12, 9, 8, 7, 11, 10] },
                      { dst := some 100, op := Op.binOp BinOp.mul 3 (Operand.tmp 89) (Operand.tmp 99) 3, guard := none, bef := [3, 2, 13, 6, 5, 4, 12, 9, 8, 7, 11, 10] },
                      { dst := some 101, op := Op.binOp BinOp.add 3 (Operand.tmp 87) (Operand.tmp 100) 3, guard := none, bef := [1, 0, 14, 3, 2, 13, 6, 5, 4, 12, 9, 8, 7, 11, 10] },
                      { dst := some 102, op := Op.fieldAddr 31 (Operand.tmp 5) 7, guard := none }, { dst := some 103, op := Op.fieldAddr 29 (Operand.tmp 102) 1, guard := none, bef := [16] },
                      { dst := some 104, op := Op.load 3 (Operand.tmp 103), guard := none, bef := [17, 16] },
                      { dst := some 105, op := Op.binOp BinOp.add 3 (Operand.tmp 104) (Operand.const (Value.int IntKind.i64 (Int.ofNat 1))) 3, guard := none, bef := [18, 17, 16] },
                      { dst := some 106, op := Op.binOp BinOp.quo 3 (Operand.tmp 105) (Operand.const (Value.int IntKind.i64 (Int.ofNat 2))) 3, guard := none, bef := [19, 18, 17, 16] },
                      { dst := some 107, op := Op.call { callee := Callee.builtin Builtin.max, args := { toList := [Operand.tmp 101, Operand.tmp 106] }, argTypes := { toList := [3, 3] } },
                        guard := none, bef := [15, 1, 0, 14, 3, 2, 13, 6, 5, 4, 12, 9, 8, 7, 11, 10, 20, 19, 18, 17, 16] },
                      { dst := some 108, op := Op.fieldAddr 25 (Operand.tmp 1) 5, guard := none },
                      { dst := some 109, op := Op.indexAddr 22 (Operand.tmp 108) (Operand.const (Value.int IntKind.i64 (Int.ofNat 2))), guard := none, bef := [22] },
                      { dst := some 110, op := Op.load 5 (Operand.tmp 109), guard := none, bef := [23, 22] },
                      { dst := some 111, op := Op.binOp BinOp.rem 5 (Operand.tmp 110) (Operand.const (Value.int IntKind.u8 (Int.ofNat 20))) 5, guard := none, bef := [24, 23, 22] },
                      { dst := some 112, op := Op.convert 5 3 (Operand.tmp 111), guard := none, bef := [25, 24, 23, 22] },
                      { dst := some 113, op := Op.binOp BinOp.add 3 (Operand.tmp 107) (Operand.tmp 112) 3, guard := none,
                        bef := [21, 15, 1, 0, 14, 3, 2, 13, 6, 5, 4, 12, 9, 8, 7, 11, 10, 20, 19, 18, 17, 16, 26, 25, 24, 23, 22] },
                      { dst := some 114, op := Op.fieldAddr 31 (Operand.tmp 5) 3, guard := none,
                        bef := [0, 1, 2, 3, 4, 5, 6, 7, 8, 9, 10, 11, 12, 13, 14, 15, 16, 17, 18, 19, 20, 21, 22, 23, 24, 25, 26, 27] },
                      { dst := none, op := Op.store 3 (Operand.tmp 114) (Operand.tmp 113), guard := none,
                        bef := [28, 0, 1, 2, 3, 4, 5, 6, 7, 8, 9, 10, 11, 12, 13, 14, 15, 16, 17, 18, 19, 20, 21, 22, 23, 24, 25, 26, 27] }]).seq
                ((IC.ops
                      [{ dst := some 115, op := Op.fieldAddr 31 (Operand.tmp 5) 3, guard := none }, { dst := some 116, op := Op.load 3 (Operand.tmp 115), guard := none },
                        { dst := some 117, op := Op.move (Operand.tmp 6), guard := none }, { dst := some 118, op := Op.binOp BinOp.add 3 (Operand.tmp 116) (Operand.tmp 117) 3, guard := none },
                        { dst := some 119, op := Op.fieldAddr 25 (Operand.tmp 1) 5, guard := none },
                        { dst := some 120, op := Op.indexAddr 22 (Operand.tmp 119) (Operand.const (Value.int IntKind.i64 (Int.ofNat 3))), guard := none },
                        { dst := some 121, op := Op.load 5 (Operand.tmp 120), guard := none },
                        { dst := some 122, op := Op.binOp BinOp.rem 5 (Operand.tmp 121) (Operand.const (Value.int IntKind.u8 (Int.ofNat 20))) 5, guard := none },
                        { dst := some 123, op := Op.convert 5 3 (Operand.tmp 122), guard := none },
                        { dst := some 124, op := Op.binOp BinOp.add 3 (Operand.tmp 118) (Operand.tmp 123) 3, guard := none },
                        { dst := some 125, op := Op.fieldAddr 31 (Operand.tmp 5) 2, guard := none }, { dst := none, op := Op.store 3 (Operand.tmp 125) (Operand.tmp 124), guard := none }]).seq
                  ((IC.opsD
                        [{ dst := some 126, op := Op.fieldAddr 31 (Operand.tmp 5) 2, guard := none }, { dst := some 127, op := Op.load 3 (Operand.tmp 126), guard := none, bef := [0] },
                          { dst := some 128, op := Op.fieldAddr 31 (Operand.tmp 5) 7, guard := none }, { dst := some 129, op := Op.fieldAddr 29 (Operand.tmp 128) 1, guard := none, bef := [2] },
                          { dst := some 130, op := Op.load 3 (Operand.tmp 129), guard := none, bef := [3, 2] },
                          { dst := some 131, op := Op.binOp BinOp.add 3 (Operand.tmp 127) (Operand.tmp 130) 3, guard := none, bef := [1, 0, 4, 3, 2] },
                          { dst := some 132, op := Op.fieldAddr 31 (Operand.tmp 5) 7, guard := none }, { dst := some 133, op := Op.fieldAddr 29 (Operand.tmp 132) 1, guard := none, bef := [6] },
                          { dst := some 134, op := Op.load 3 (Operand.tmp 133), guard := none, bef := [7, 6] }, { dst := some 135, op := Op.fieldAddr 31 (Operand.tmp 5) 10, guard := none },
                          { dst := some 136, op := Op.load 3 (Operand.tmp 135), guard := none, bef := [9] },
                          { dst := some 137, op := Op.call { callee := Callee.value (Operand.func 10), args := { toList := [Operand.tmp 134, Operand.tmp 136] }, argTypes := { toList := [3, 3] } },
                            guard := none, bef := [8, 7, 6, 10, 9] },
                          { dst := some 138, op := Op.binOp BinOp.add 3 (Operand.tmp 131) (Operand.tmp 137) 3, guard := none, bef := [5, 1, 0, 4, 3, 2, 11, 8, 7, 6, 10, 9] },
                          { dst := some 139, op := Op.fieldAddr 25 (Operand.tmp 1) 5, guard := none },
                          { dst := some 140, op := Op.indexAddr 22 (Operand.tmp 139) (Operand.const (Value.int IntKind.i64 (Int.ofNat 4))), guard := none, bef := [13] },
                          { dst := some 141, op := Op.load 5 (Operand.tmp 140), guard := none, bef := [14, 13] },
                          { dst := some 142, op := Op.binOp BinOp.rem 5 (Operand.tmp 141) (Operand.const (Value.int IntKind.u8 (Int.ofNat 20))) 5, guard := none, bef := [15, 14, 13] },
                          { dst := some 143, op := Op.convert 5 3 (Operand.tmp 142), guard := none, bef := [16, 15, 14, 13] },
                          { dst := some 144, op := Op.binOp BinOp.add 3 (Operand.tmp 138) (Operand.tmp 143) 3, guard := none, bef := [12, 5, 1, 0, 4, 3, 2, 11, 8, 7, 6, 10, 9, 17, 16, 15, 14, 13] },
                          { dst := some 145, op := Op.fieldAddr 31 (Operand.tmp 5) 6, guard := none, bef := [0, 1, 2, 3, 4, 5, 6, 7, 8, 9, 10, 11, 12, 13, 14, 15, 16, 17, 18] },
                          { dst := none, op := Op.store 3 (Operand.tmp 145) (Operand.tmp 144), guard := none, bef := [19, 0, 1, 2, 3, 4, 5, 6, 7, 8, 9, 10, 11, 12, 13, 14, 15, 16, 17, 18] }]).seq
                    (((IC.ops [{ dst := some 7, op := Op.assign (Operand.const (Value.int IntKind.i64 (Int.ofNat 0))), guard := none }]).seq
                          (IC.block 0
                            (((IC.ops
                                        [{ dst := some 146, op := Op.move (Operand.tmp 7), guard := none }, { dst := some 147, op := Op.fieldAddr 25 (Operand.tmp 1) 0, guard := none },
                                          { dst := some 148, op := Op.load 5 (Operand.tmp 147), guard := none },
                                          { dst := some 149, op := Op.binOp BinOp.rem 5 (Operand.tmp 148) (Operand.const (Value.int IntKind.u8 (Int.ofNat 5))) 5, guard := none },
                                          { dst := some 150, op := Op.convert 5 3 (Operand.tmp 149), guard := none },
                                          { dst := some 151, op := Op.binOp BinOp.add 3 (Operand.const (Value.int IntKind.i64 (Int.ofNat 2))) (Operand.tmp 150) 3, guard := none },
                                          { dst := some 152, op := Op.binOp BinOp.lss 3 (Operand.tmp 146) (Operand.tmp 151) 3, guard := none }]).seq
                                    (IC.cond (Operand.tmp 152) IC.skip (IC.exit 0))).seq
                                ((IC.block 1
                                      ((IC.ops
                                            [{ dst := some 155, op := Op.fieldAddr 31 (Operand.tmp 5) 0, guard := none }, { dst := some 156, op := Op.load 27 (Operand.tmp 155), guard := none },
                                              { dst := some 157, op := Op.move (Operand.tmp 7), guard := none }, { dst := some 158, op := Op.fieldAddr 31 (Operand.tmp 5) 6, guard := none },
                                              { dst := some 159, op := Op.load 3 (Operand.tmp 158), guard := none },
                                              { dst := some 160, op := Op.binOp BinOp.mul 3 (Operand.const (Value.int IntKind.i64 (Int.ofNat 2))) (Operand.tmp 159) 3, guard := none },
                                              { dst := some 161, op := Op.fieldAddr 31 (Operand.tmp 5) 7, guard := none },
                                              { dst := some 162, op := Op.fieldAddr 29 (Operand.tmp 161) 1, guard := none }, { dst := some 163, op := Op.load 3 (Operand.tmp 162), guard := none },
                                              { dst := some 164, op := Op.binOp BinOp.add 3 (Operand.tmp 160) (Operand.tmp 163) 3, guard := none },
                                              { dst := some 165, op := Op.binOp BinOp.add 3 (Operand.tmp 164) (Operand.const (Value.int IntKind.i64 (Int.ofNat 1))) 3, guard := none },
                                              { dst := some 166, op := Op.fieldAddr 25 (Operand.tmp 1) 6, guard := none }, { dst := some 167, op := Op.load 23 (Operand.tmp 166), guard := none },
                                              { dst := some 168, op := Op.binOp BinOp.rem 23 (Operand.tmp 167) (Operand.const (Value.int IntKind.u16 (Int.ofNat 200))) 23, guard := none },
                                              { dst := some 169, op := Op.convert 23 3 (Operand.tmp 168), guard := none },
                                              { dst := some 170, op := Op.binOp BinOp.add 3 (Operand.tmp 165) (Operand.tmp 169) 3, guard := none },
                                              { dst := some 171, op := Op.binOp BinOp.mul 3 (Operand.tmp 157) (Operand.tmp 170) 3, guard := none },
                                              { dst := some 172, op := Op.buildSlice 27 1 { toList := [(0, Operand.tmp 171)] }, guard := none },
                                              { dst := some 173,
                                                op := Op.call { callee := Callee.builtin Builtin.append, args := { toList := [Operand.tmp 156, Operand.tmp 172] }, argTypes := { toList := [27, 27] } },
                                                guard := none },
                                              { dst := some 174, op := Op.fieldAddr 31 (Operand.tmp 5) 0, guard := none },
                                              { dst := none, op := Op.store 27 (Operand.tmp 174) (Operand.tmp 173), guard := none }]).seq
                                        (IC.opsD
                                          [{ dst := some 175, op := Op.fieldAddr 31 (Operand.tmp 5) 1, guard := none },
                                            { dst := some 176, op := Op.load 27 (Operand.tmp 175), guard := none, bef := [0] },
                                            { dst := some 177, op := Op.fieldAddr 25 (Operand.tmp 1) 15, guard := none },
                                            { dst := some 178, op := Op.load 23 (Operand.tmp 177), guard := none, bef := [2] }, { dst := some 179, op := Op.move (Operand.tmp 7), guard := none },
                                            { dst := some 180, op := Op.binOp BinOp.mul 3 (Operand.const (Value.int IntKind.i64 (Int.ofNat 2))) (Operand.tmp 179) 3, guard := none, bef := [4] },
                                            { dst := some 181, op := Op.binOp BinOp.shr 23 (Operand.tmp 178) (Operand.tmp 180) 3, guard := none, bef := [3, 2, 5, 4] },
                                            { dst := some 182, op := Op.convert 23 3 (Operand.tmp 181), guard := none, bef := [6, 3, 2, 5, 4] },
                                            { dst := some 183, op := Op.binOp BinOp.rem 3 (Operand.tmp 182) (Operand.const (Value.int IntKind.i64 (Int.ofNat 3))) 3, guard := none,
                                              bef := [7, 6, 3, 2, 5, 4] },
                                            { dst := some 184, op := Op.binOp BinOp.add 3 (Operand.const (Value.int IntKind.i64 (Int.ofNat 1))) (Operand.tmp 183) 3, guard := none,
                                              bef := [8, 7, 6, 3, 2, 5, 4] },
                                            { dst := some 185, op := Op.buildSlice 27 1 { toList := [(0, Operand.tmp 184)] }, guard := none, bef := [9, 8, 7, 6, 3, 2, 5, 4] },
                                            { dst := some 186,
                                              op := Op.call { callee := Callee.builtin Builtin.append, args := { toList := [Operand.tmp 176, Operand.tmp 185] }, argTypes := { toList := [27, 27] } },
                                              guard := none, bef := [1, 0, 10, 9, 8, 7, 6, 3, 2, 5, 4] },
                                            { dst := some 187, op := Op.fieldAddr 31 (Operand.tmp 5) 1, guard := none, bef := [0, 1, 2, 3, 4, 5, 6, 7, 8, 9, 10, 11] },
                                            { dst := none, op := Op.store 27 (Operand.tmp 187) (Operand.tmp 186), guard := none, bef := [12, 0, 1, 2, 3, 4, 5, 6, 7, 8, 9, 10, 11] }]))).seq
                                  (IC.ops
                                    [{ dst := some 153, op := Op.move (Operand.tmp 7), guard := none },
                                      { dst := some 154, op := Op.binOp BinOp.add 3 (Operand.tmp 153) (Operand.const (Value.int IntKind.i64 (Int.ofNat 1))) 3, guard := none },
                                      { dst := some 7, op := Op.assign (Operand.tmp 154), guard := none }]))).loop)).seq
                      ((IC.ops
                            [{ dst := some 188, op := Op.fieldAddr 25 (Operand.tmp 1) 7, guard := none }, { dst := some 189, op := Op.load 5 (Operand.tmp 188), guard := none },
                              { dst := some 190, op := Op.binOp BinOp.rem 5 (Operand.tmp 189) (Operand.const (Value.int IntKind.u8 (Int.ofNat 5))) 5, guard := none },
                              { dst := some 191, op := Op.convert 5 3 (Operand.tmp 190), guard := none }, { dst := some 192, op := Op.fieldAddr 31 (Operand.tmp 5) 11, guard := none },
                              { dst := none, op := Op.store 3 (Operand.tmp 192) (Operand.tmp 191), guard := none }]).seq
                        ((IC.ops
                              [{ dst := some 193, op := Op.fieldAddr 31 (Operand.tmp 5) 11, guard := none }, { dst := some 194, op := Op.load 3 (Operand.tmp 193), guard := none },
                                { dst := some 195, op := Op.binOp BinOp.add 3 (Operand.tmp 194) (Operand.const (Value.int IntKind.i64 (Int.ofNat 1))) 3, guard := none },
                                { dst := some 196, op := Op.fieldAddr 25 (Operand.tmp 1) 8, guard := none }, { dst := some 197, op := Op.load 5 (Operand.tmp 196), guard := none },
                                { dst := some 198, op := Op.binOp BinOp.rem 5 (Operand.tmp 197) (Operand.const (Value.int IntKind.u8 (Int.ofNat 4))) 5, guard := none },
                                { dst := some 199, op := Op.convert 5 3 (Operand.tmp 198), guard := none },
                                { dst := some 200, op := Op.binOp BinOp.add 3 (Operand.tmp 195) (Operand.tmp 199) 3, guard := none },
                                { dst := some 201, op := Op.fieldAddr 31 (Operand.tmp 5) 12, guard := none }, { dst := none, op := Op.store 3 (Operand.tmp 201) (Operand.tmp 200), guard := none }]).seq
                          ((IC.opsD
                                [{ dst := some 202, op := Op.fieldAddr 25 (Operand.tmp 1) 10, guard := none }, { dst := some 203, op := Op.load 23 (Operand.tmp 202), guard := none, bef := [0] },
                                  { dst := some 204, op := Op.convert 23 3 (Operand.tmp 203), guard := none, bef := [1, 0] },
                                  { dst := some 205, op := Op.binOp BinOp.add 3 (Operand.const (Value.int IntKind.i64 (Int.ofNat 1))) (Operand.tmp 204) 3, guard := none, bef := [2, 1, 0] },
                                  { dst := some 206, op := Op.fieldAddr 25 (Operand.tmp 1) 11, guard := none }, { dst := some 207, op := Op.load 23 (Operand.tmp 206), guard := none, bef := [4] },
                                  { dst := some 208, op := Op.convert 23 3 (Operand.tmp 207), guard := none, bef := [5, 4] },
                                  { dst := some 209, op := Op.binOp BinOp.add 3 (Operand.const (Value.int IntKind.i64 (Int.ofNat 1))) (Operand.tmp 208) 3, guard := none, bef := [6, 5, 4] },
                                  { dst := some 210, op := Op.fieldAddr 25 (Operand.tmp 1) 12, guard := none }, { dst := some 211, op := Op.load 23 (Operand.tmp 210), guard := none, bef := [8] },
                                  { dst := some 212, op := Op.binOp BinOp.rem 23 (Operand.tmp 211) (Operand.const (Value.int IntKind.u16 (Int.ofNat 300))) 23, guard := none, bef := [9, 8] },
                                  { dst := some 213, op := Op.convert 23 3 (Operand.tmp 212), guard := none, bef := [10, 9, 8] },
                                  { dst := some 214, op := Op.binOp BinOp.add 3 (Operand.const (Value.int IntKind.i64 (Int.ofNat 1))) (Operand.tmp 213) 3, guard := none, bef := [11, 10, 9, 8] },
                                  { dst := some 215, op := Op.fieldAddr 31 (Operand.tmp 5) 14, guard := none, bef := [0, 1, 2, 3] },
                                  { dst := none, op := Op.store 3 (Operand.tmp 215) (Operand.tmp 205), guard := none, bef := [13, 0, 1, 2, 3] },
                                  { dst := some 216, op := Op.fieldAddr 31 (Operand.tmp 5) 16, guard := none, bef := [0, 1, 2, 3, 4, 5, 6, 7, 13, 14] },
                                  { dst := none, op := Op.store 3 (Operand.tmp 216) (Operand.tmp 209), guard := none, bef := [15, 0, 1, 2, 3, 4, 5, 6, 7, 13, 14] },
                                  { dst := some 217, op := Op.fieldAddr 31 (Operand.tmp 5) 17, guard := none, bef := [0, 1, 2, 3, 4, 5, 6, 7, 8, 9, 10, 11, 12, 13, 14, 15, 16] },
                                  { dst := none, op := Op.store 3 (Operand.tmp 217) (Operand.tmp 214), guard := none, bef := [17, 0, 1, 2, 3, 4, 5, 6, 7, 8, 9, 10, 11, 12, 13, 14, 15, 16] }]).seq
                            ((IC.opsD
                                  [{ dst := some 218, op := Op.fieldAddr 25 (Operand.tmp 1) 13, guard := none }, { dst := some 219, op := Op.load 5 (Operand.tmp 218), guard := none, bef := [0] },
                                    { dst := some 220, op := Op.binOp BinOp.rem 5 (Operand.tmp 219) (Operand.const (Value.int IntKind.u8 (Int.ofNat 9))) 5, guard := none, bef := [1, 0] },
                                    { dst := some 221, op := Op.convert 5 3 (Operand.tmp 220), guard := none, bef := [2, 1, 0] },
                                    { dst := some 222, op := Op.binOp BinOp.add 3 (Operand.const (Value.int IntKind.i64 (Int.ofNat 1))) (Operand.tmp 221) 3, guard := none, bef := [3, 2, 1, 0] },
                                    { dst := some 223, op := Op.fieldAddr 25 (Operand.tmp 1) 14, guard := none }, { dst := some 224, op := Op.load 5 (Operand.tmp 223), guard := none, bef := [5] },
                                    { dst := some 225, op := Op.binOp BinOp.rem 5 (Operand.tmp 224) (Operand.const (Value.int IntKind.u8 (Int.ofNat 4))) 5, guard := none, bef := [6, 5] },
                                    { dst := some 226, op := Op.convert 5 3 (Operand.tmp 225), guard := none, bef := [7, 6, 5] },
                                    { dst := some 227, op := Op.binOp BinOp.add 3 (Operand.const (Value.int IntKind.i64 (Int.ofNat 1))) (Operand.tmp 226) 3, guard := none, bef := [8, 7, 6, 5] },
                                    { dst := some 228, op := Op.fieldAddr 31 (Operand.tmp 5) 15, guard := none, bef := [0, 1, 2, 3, 4] },
                                    { dst := none, op := Op.store 3 (Operand.tmp 228) (Operand.tmp 222), guard := none, bef := [10, 0, 1, 2, 3, 4] },
                                    { dst := some 229, op := Op.fieldAddr 31 (Operand.tmp 5) 18, guard := none, bef := [0, 1, 2, 3, 4, 5, 6, 7, 8, 9, 10, 11] },
                                    { dst := none, op := Op.store 3 (Operand.tmp 229) (Operand.tmp 227), guard := none, bef := [12, 0, 1, 2, 3, 4, 5, 6, 7, 8, 9, 10, 11] }]).seq
                              ((IC.ops [{ dst := some 230, op := Op.load 31 (Operand.tmp 5), guard := none }, { dst := none, op := Op.store 31 (Operand.tmp 2) (Operand.tmp 230), guard := none }]).seq
                                IC.ret)))))))))))))))
theorem ic5_eq : Try.f5.body.map comp = some ic5 := by kernel_rfl
theorem ic5_ok : Try.f5.body.map (okC Try.f5.ntmps) = some true := by kernel_rfl
theorem ic5_nm : (Try.f5.name != "runtime.NumGoroutine") = true := by kernel_rfl
@[simp] theorem ic5_n : Try.f5.ntmps = 231 := by kernel_rfl
@[simp] theorem ic5_r : Try.f5.results.toList = [ResultVar.cell 2 31] := by kernel_rfl

def ic6 : IC :=
  (IC.ops [{ dst := some 1, op := Op.box 31 (Operand.tmp 0), guard := none }, { dst := some 2, op := Op.assign (Operand.const (Value.pointer none)), guard := none }]).seq
  ((IC.opsD
        [{ dst := some 3, op := Op.fieldAddr 31 (Operand.tmp 1) 14, guard := none }, { dst := some 4, op := Op.load 3 (Operand.tmp 3), guard := none, bef := [0] },
          { dst := some 5, op := Op.fieldAddr 31 (Operand.tmp 1) 15, guard := none }, { dst := some 6, op := Op.load 3 (Operand.tmp 5), guard := none, bef := [2] },
          { dst := some 7, op := Op.fieldAddr 31 (Operand.tmp 1) 16, guard := none }, { dst := some 8, op := Op.load 3 (Operand.tmp 7), guard := none, bef := [4] },
          { dst := some 9, op := Op.build 44 { toList := [(0, Operand.tmp 4), (1, Operand.tmp 6), (2, Operand.tmp 8)] }, guard := none, bef := [1, 0, 3, 2, 5, 4] },
          { dst := some 10, op := Op.call { callee := Callee.value (Operand.func 12), args := { toList := [Operand.tmp 9] }, argTypes := { toList := [44] } }, guard := none,
            bef := [6, 1, 0, 3, 2, 5, 4] },
          { dst := some 11, op := Op.build 46 { toList := [(0, Operand.tmp 10)] }, guard := none, bef := [7, 6, 1, 0, 3, 2, 5, 4] },
          { dst := some 12, op := Op.fieldAddr 31 (Operand.tmp 1) 13, guard := none }, { dst := some 13, op := Op.load 3 (Operand.tmp 12), guard := none, bef := [9] },
          { dst := some 14, op := Op.call { callee := Callee.value (Operand.func 13), args := { toList := [Operand.tmp 13] }, argTypes := { toList := [3] } }, guard := none,
            bef := [10, 9, 7, 6, 1, 0, 3, 2, 5, 4] },
          { dst := some 15, op := Op.build 50 { toList := [(0, Operand.tmp 14)] }, guard := none, bef := [11, 10, 9, 7, 6, 1, 0, 3, 2, 5, 4] },
          { dst := some 16, op := Op.build 52 { toList := [(0, Operand.tmp 11), (1, Operand.tmp 15)] }, guard := none, bef := [8, 7, 6, 1, 0, 3, 2, 5, 4, 12, 11, 10, 9] },
          { dst := some 17, op := Op.box 52 (Operand.tmp 16), guard := none, bef := [13, 8, 7, 6, 1, 0, 3, 2, 5, 4, 12, 11, 10, 9] },
          { dst := some 2, op := Op.assign (Operand.tmp 17), guard := none, bef := [14, 13, 8, 7, 6, 1, 0, 3, 2, 5, 4, 12, 11, 10, 9] }]).seq
    IC.ret)
theorem ic6_eq : Try.f6.body.map comp = some ic6 := by kernel_rfl
theorem ic6_ok : Try.f6.body.map (okC Try.f6.ntmps) = some true := by kernel_rfl
theorem ic6_nm : (Try.f6.name != "runtime.NumGoroutine") = true := by kernel_rfl
@[simp] theorem ic6_n : Try.f6.ntmps = 18 := by kernel_rfl
@[simp] theorem ic6_r : Try.f6.results.toList = [ResultVar.tmp 2] := by kernel_rfl

def ic7 : IC :=
  (IC.ops [{ dst := some 4, op := Op.alloc 37, guard := none }]).seq
  ((IC.ops
        [{ dst := some 9, op := Op.move (Operand.tmp 1), guard := none },
          { dst := some 10, op := Op.binOp BinOp.eql 3 (Operand.tmp 9) (Operand.const (Value.int IntKind.i64 (Int.ofNat 1))) 3, guard := none },
          { dst := some 11, op := Op.move (Operand.tmp 10), guard := none }, { dst := some 12, op := Op.move (Operand.tmp 1), guard := some (some 11, false) },
          { dst := some 13, op := Op.binOp BinOp.eql 3 (Operand.tmp 12) (Operand.const (Value.int IntKind.i64 (Int.ofNat 2))) 3, guard := some (some 11, false) },
          { dst := some 14, op := Op.pick (Operand.tmp 11) (Operand.const (Value.bool true)) (Operand.tmp 13), guard := none }, { dst := some 5, op := Op.assign (Operand.tmp 14), guard := none }]).seq
    ((IC.ops
          [{ dst := some 15, op := Op.move (Operand.tmp 1), guard := none },
            { dst := some 16, op := Op.binOp BinOp.eql 3 (Operand.tmp 15) (Operand.const (Value.int IntKind.i64 (Int.ofNat 3))) 3, guard := none },
            { dst := some 17, op := Op.move (Operand.tmp 16), guard := none }, { dst := some 18, op := Op.move (Operand.tmp 1), guard := some (some 17, false) },
            { dst := some 19, op := Op.binOp BinOp.eql 3 (Operand.tmp 18) (Operand.const (Value.int IntKind.i64 (Int.ofNat 4))) 3, guard := some (some 17, false) },
            { dst := some 20, op := Op.pick (Operand.tmp 17) (Operand.const (Value.bool true)) (Operand.tmp 19), guard := none },
            { dst := some 6, op := Op.assign (Operand.tmp 20), guard := none }]).seq
      ((IC.opsD
            [{ dst := some 21, op := Op.move (Operand.tmp 0), guard := none }, { dst := some 22, op := Op.nilCheck (Operand.tmp 21), guard := none, bef := [0] },
              { dst := some 23, op := Op.fieldAddr 52 (Operand.tmp 22) 1, guard := none, bef := [1, 0] }, { dst := some 24, op := Op.fieldAddr 50 (Operand.tmp 23) 0, guard := none, bef := [2, 1, 0] },
              { dst := some 25, op := Op.load 47 (Operand.tmp 24), guard := none, bef := [3, 2, 1, 0] }, { dst := some 26, op := Op.move (Operand.tmp 0), guard := none },
              { dst := some 27, op := Op.nilCheck (Operand.tmp 26), guard := none, bef := [5] }, { dst := some 28, op := Op.fieldAddr 52 (Operand.tmp 27) 0, guard := none, bef := [6, 5] },
              { dst := some 29, op := Op.fieldAddr 46 (Operand.tmp 28) 0, guard := none, bef := [7, 6, 5] }, { dst := some 30, op := Op.load 41 (Operand.tmp 29), guard := none, bef := [8, 7, 6, 5] },
              { dst := some 31, op := Op.move (Operand.tmp 5), guard := none },
              { dst := some 32, op := Op.call { callee := Callee.value (Operand.func 15), args := { toList := [Operand.tmp 30, Operand.tmp 31] }, argTypes := { toList := [41, 4] } }, guard := none,
                bef := [9, 8, 7, 6, 5, 10] },
              { dst := some 33, op := Op.call { callee := Callee.value (Operand.func 14), args := { toList := [Operand.tmp 25, Operand.tmp 32] }, argTypes := { toList := [47, 4] } }, guard := none,
                bef := [4, 3, 2, 1, 0, 11, 9, 8, 7, 6, 5, 10] },
              { dst := some 7, op := Op.alloc 54, guard := none },
              { dst := none, op := Op.store 54 (Operand.tmp 7) (Operand.tmp 33), guard := none, bef := [13, 12, 4, 3, 2, 1, 0, 11, 9, 8, 7, 6, 5, 10] }]).seq
        ((IC.ops
              [{ dst := some 34, op := Op.fieldAddr 54 (Operand.tmp 7) 0, guard := none }, { dst := some 35, op := Op.load 4 (Operand.tmp 34), guard := none },
                { dst := some 36, op := Op.fieldAddr 54 (Operand.tmp 7) 1, guard := none }, { dst := some 37, op := Op.load 4 (Operand.tmp 36), guard := none },
                { dst := some 38, op := Op.fieldAddr 54 (Operand.tmp 7) 2, guard := none }, { dst := some 39, op := Op.load 4 (Operand.tmp 38), guard := none },
                { dst := some 40, op := Op.build 37 { toList := [(2, Operand.tmp 35), (3, Operand.tmp 37), (4, Operand.tmp 39)] }, guard := none }, { dst := some 8, op := Op.alloc 37, guard := none },
                { dst := none, op := Op.store 37 (Operand.tmp 8) (Operand.tmp 40), guard := none }]).seq
          (((IC.ops
                    [{ dst := some 41, op := Op.move (Operand.tmp 6), guard := none }, { dst := some 42, op := Op.move (Operand.tmp 41), guard := none },
                      { dst := some 43, op := Op.move (Operand.tmp 5), guard := some (some 42, false) }, { dst := some 44, op := Op.move (Operand.tmp 43), guard := some (some 42, false) },
                      { dst := some 45, op := Op.fieldAddr 54 (Operand.tmp 7) 3, guard := some (some 44, true) }, { dst := some 46, op := Op.load 4 (Operand.tmp 45), guard := some (some 44, true) },
                      { dst := some 47, op := Op.pick (Operand.tmp 44) (Operand.tmp 46) (Operand.const (Value.bool false)), guard := some (some 42, false) },
                      { dst := some 48, op := Op.pick (Operand.tmp 42) (Operand.const (Value.bool true)) (Operand.tmp 47), guard := none }]).seq
                (IC.cond (Operand.tmp 48)
                  (IC.ops
                    [{ dst := some 49, op := Op.move (Operand.tmp 1), guard := none }, { dst := some 50, op := Op.fieldAddr 37 (Operand.tmp 8) 0, guard := none },
                      { dst := none, op := Op.store 3 (Operand.tmp 50) (Operand.tmp 49), guard := none }])
                  IC.skip)).seq
            ((IC.ops [{ dst := some 51, op := Op.load 37 (Operand.tmp 8), guard := none }, { dst := none, op := Op.store 37 (Operand.tmp 4) (Operand.tmp 51), guard := none }]).seq IC.ret))))))
theorem ic7_eq : Try.f7.body.map comp = some ic7 := by kernel_rfl
theorem ic7_ok : Try.f7.body.map (okC Try.f7.ntmps) = some true := by kernel_rfl
theorem ic7_nm : (Try.f7.name != "runtime.NumGoroutine") = true := by kernel_rfl
@[simp] theorem ic7_n : Try.f7.ntmps = 52 := by kernel_rfl
@[simp] theorem ic7_r : Try.f7.results.toList = [ResultVar.cell 4 37] := by kernel_rfl

def ic8 : IC :=
  (IC.ops [{ dst := some 2, op := Op.assign (Operand.const (Value.bool false)), guard := none }]).seq
  ((IC.ops
        [{ dst := some 3, op := Op.move (Operand.tmp 0), guard := none }, { dst := some 4, op := Op.nilCheck (Operand.tmp 3), guard := none },
          { dst := some 5, op := Op.fieldAddr 52 (Operand.tmp 4) 0, guard := none }, { dst := some 6, op := Op.fieldAddr 46 (Operand.tmp 5) 0, guard := none },
          { dst := some 7, op := Op.load 41 (Operand.tmp 6), guard := none },
          { dst := some 8, op := Op.call { callee := Callee.value (Operand.func 16), args := { toList := [Operand.tmp 7] }, argTypes := { toList := [41] } }, guard := none },
          { dst := some 2, op := Op.assign (Operand.tmp 8), guard := none }]).seq
    IC.ret)
theorem ic8_eq : Try.f8.body.map comp = some ic8 := by kernel_rfl
theorem ic8_ok : Try.f8.body.map (okC Try.f8.ntmps) = some true := by kernel_rfl
theorem ic8_nm : (Try.f8.name != "runtime.NumGoroutine") = true := by kernel_rfl
@[simp] theorem ic8_n : Try.f8.ntmps = 9 := by kernel_rfl
@[simp] theorem ic8_r : Try.f8.results.toList = [ResultVar.tmp 2] := by kernel_rfl

def ic9 : IC :=
  (IC.ops [{ dst := some 2, op := Op.assign (Operand.const (Value.bool false)), guard := none }]).seq
  ((IC.ops
        [{ dst := some 3, op := Op.move (Operand.tmp 0), guard := none }, { dst := some 4, op := Op.nilCheck (Operand.tmp 3), guard := none },
          { dst := some 5, op := Op.fieldAddr 52 (Operand.tmp 4) 0, guard := none }, { dst := some 6, op := Op.fieldAddr 46 (Operand.tmp 5) 0, guard := none },
          { dst := some 7, op := Op.load 41 (Operand.tmp 6), guard := none },
          { dst := some 8, op := Op.call { callee := Callee.value (Operand.func 17), args := { toList := [Operand.tmp 7] }, argTypes := { toList := [41] } }, guard := none },
          { dst := some 2, op := Op.assign (Operand.tmp 8), guard := none }]).seq
    IC.ret)
theorem ic9_eq : Try.f9.body.map comp = some ic9 := by kernel_rfl
theorem ic9_ok : Try.f9.body.map (okC Try.f9.ntmps) = some true := by kernel_rfl
theorem ic9_nm : (Try.f9.name != "runtime.NumGoroutine") = true := by kernel_rfl
@[simp] theorem ic9_n : Try.f9.ntmps = 9 := by kernel_rfl
@[simp] theorem ic9_r : Try.f9.results.toList = [ResultVar.tmp 2] := by kernel_rfl

def ic10 : IC :=
  (IC.ops [{ dst := some 4, op := Op.assign (Operand.const (Value.int IntKind.i64 (Int.ofNat 0))), guard := none }]).seq
  ((IC.ops [{ dst := some 5, op := Op.assign (Operand.const (Value.int IntKind.i64 (Int.ofNat 0))), guard := none }]).seq
    (((IC.ops [{ dst := some 6, op := Op.assign (Operand.const (Value.int IntKind.i64 (Int.ofNat 0))), guard := none }]).seq
          (IC.block 0
            (((IC.ops
                        [{ dst := some 7, op := Op.move (Operand.tmp 0), guard := none },
                          { dst := some 8, op := Op.binOp BinOp.gtr 3 (Operand.tmp 7) (Operand.const (Value.int IntKind.i64 (Int.ofNat 0))) 3, guard := none },
                          { dst := some 9, op := Op.move (Operand.tmp 8), guard := none }, { dst := some 10, op := Op.move (Operand.tmp 6), guard := some (some 9, true) },
                          { dst := some 11, op := Op.binOp BinOp.lss 3 (Operand.tmp 10) (Operand.const (Value.int IntKind.i64 (Int.ofNat 2000))) 3, guard := some (some 9, true) },
                          { dst := some 12, op := Op.pick (Operand.tmp 9) (Operand.tmp 11) (Operand.const (Value.bool false)), guard := none }]).seq
                    (IC.cond (Operand.tmp 12) IC.skip (IC.exit 0))).seq
                ((IC.block 1
                      ((IC.ops
                            [{ dst := some 15, op := Op.move (Operand.tmp 0), guard := none }, { dst := some 16, op := Op.move (Operand.tmp 1), guard := none },
                              { dst := some 17,
                                op :=
                                  Op.call
                                    { callee := Callee.value (Operand.func 18), args := { toList := [Operand.tmp 15, Operand.const (Value.int IntKind.i64 (Int.ofNat 0)), Operand.tmp 16] },
                                      argTypes := { toList := [3, 3, 3] } },
                                guard := none },
                              { dst := some 0, op := Op.assign (Operand.tmp 17), guard := none }]).seq
                        (IC.ops
                          [{ dst := some 18, op := Op.move (Operand.tmp 5), guard := none }, { dst := some 19, op := Op.move (Operand.tmp 0), guard := none },
                            { dst := some 20, op := Op.binOp BinOp.add 3 (Operand.tmp 18) (Operand.tmp 19) 3, guard := none },
                            { dst := some 5, op := Op.assign (Operand.tmp 20), guard := none }]))).seq
                  (IC.ops
                    [{ dst := some 13, op := Op.move (Operand.tmp 6), guard := none },
                      { dst := some 14, op := Op.binOp BinOp.add 3 (Operand.tmp 13) (Operand.const (Value.int IntKind.i64 (Int.ofNat 1))) 3, guard := none },
                      { dst := some 6, op := Op.assign (Operand.tmp 14), guard := none }]))).loop)).seq
      ((IC.ops [{ dst := some 21, op := Op.move (Operand.tmp 5), guard := none }, { dst := some 4, op := Op.assign (Operand.tmp 21), guard := none }]).seq IC.ret)))
theorem ic10_eq : Try.f10.body.map comp = some ic10 := by kernel_rfl
theorem ic10_ok : Try.f10.body.map (okC Try.f10.ntmps) = some true := by kernel_rfl
theorem ic10_nm : (Try.f10.name != "runtime.NumGoroutine") = true := by kernel_rfl
@[simp] theorem ic10_n : Try.f10.ntmps = 22 := by kernel_rfl
@[simp] theorem ic10_r : Try.f10.results.toList = [ResultVar.tmp 4] := by kernel_rfl

def ic11 : IC :=
  (IC.ops [{ dst := some 4, op := Op.assign (Operand.const (Value.int IntKind.i64 (Int.ofNat 0))), guard := none }]).seq
  ((IC.ops [{ dst := some 5, op := Op.assign (Operand.const (Value.int IntKind.i64 (Int.ofNat 0))), guard := none }]).seq
    ((IC.block 0
          (((IC.ops
                      [{ dst := some 6, op := Op.move (Operand.tmp 0), guard := none },
                        { dst := some 7, op := Op.binOp BinOp.gtr 3 (Operand.tmp 6) (Operand.const (Value.int IntKind.i64 (Int.ofNat 0))) 3, guard := none },
                        { dst := some 8, op := Op.move (Operand.tmp 7), guard := none }, { dst := some 9, op := Op.move (Operand.tmp 5), guard := some (some 8, true) },
                        { dst := some 10, op := Op.binOp BinOp.lss 3 (Operand.tmp 9) (Operand.const (Value.int IntKind.i64 (Int.ofNat 2000))) 3, guard := some (some 8, true) },
                        { dst := some 11, op := Op.pick (Operand.tmp 8) (Operand.tmp 10) (Operand.const (Value.bool false)), guard := none }]).seq
                  (IC.cond (Operand.tmp 11) IC.skip (IC.exit 0))).seq
              (IC.block 1
                ((IC.ops
                      [{ dst := some 12, op := Op.move (Operand.tmp 0), guard := none }, { dst := some 13, op := Op.move (Operand.tmp 1), guard := none },
                        { dst := some 14,
                          op :=
                            Op.call
                              { callee := Callee.value (Operand.func 18), args := { toList := [Operand.tmp 12, Operand.const (Value.int IntKind.i64 (Int.ofNat 0)), Operand.tmp 13] },
                                argTypes := { toList := [3, 3, 3] } },
                          guard := none },
                        { dst := some 0, op := Op.assign (Operand.tmp 14), guard := none }]).seq
                  (IC.ops
                    [{ dst := some 15, op := Op.move (Operand.tmp 5), guard := none },
                      { dst := some 16, op := Op.binOp BinOp.add 3 (Operand.tmp 15) (Operand.const (Value.int IntKind.i64 (Int.ofNat 1))) 3, guard := none },
                      { dst := some 5, op := Op.assign (Operand.tmp 16), guard := none }])))).loop).seq
      ((IC.ops [{ dst := some 17, op := Op.move (Operand.tmp 5), guard := none }, { dst := some 4, op := Op.assign (Operand.tmp 17), guard := none }]).seq IC.ret)))
theorem ic11_eq : Try.f11.body.map comp = some ic11 := by kernel_rfl
theorem ic11_ok : Try.f11.body.map (okC Try.f11.ntmps) = some true := by kernel_rfl
theorem ic11_nm : (Try.f11.name != "runtime.NumGoroutine") = true := by kernel_rfl
@[simp] theorem ic11_n : Try.f11.ntmps = 18 := by kernel_rfl
@[simp] theorem ic11_r : Try.f11.results.toList = [ResultVar.tmp 4] := by kernel_rfl

def ic12 : IC :=
  (IC.ops [{ dst := some 1, op := Op.box 44 (Operand.tmp 0), guard := none }, { dst := some 2, op := Op.assign (Operand.const (Value.pointer none)), guard := none }]).seq
  ((IC.opsD
        [{ dst := some 3, op := Op.fieldAddr 44 (Operand.tmp 1) 0, guard := none }, { dst := some 4, op := Op.load 3 (Operand.tmp 3), guard := none, bef := [0] },
          { dst := some 5,
            op :=
              Op.call { callee := Callee.value (Operand.func 19), args := { toList := [Operand.tmp 4, Operand.const (Value.int IntKind.i64 (Int.ofNat 1000000))] }, argTypes := { toList := [3, 3] } },
            guard := none, bef := [1, 0] },
          { dst := some 6, op := Op.fieldAddr 44 (Operand.tmp 1) 1, guard := none }, { dst := some 7, op := Op.load 3 (Operand.tmp 6), guard := none, bef := [3] },
          { dst := some 8,
            op := Op.call { callee := Callee.value (Operand.func 19), args := { toList := [Operand.tmp 7, Operand.const (Value.int IntKind.i64 (Int.ofNat 100))] }, argTypes := { toList := [3, 3] } },
            guard := none, bef := [4, 3, 2, 1, 0] },
          { dst := some 9, op := Op.fieldAddr 44 (Operand.tmp 1) 2, guard := none }, { dst := some 10, op := Op.load 3 (Operand.tmp 9), guard := none, bef := [6] },
          { dst := some 11,
            op :=
              Op.call { callee := Callee.value (Operand.func 19), args := { toList := [Operand.tmp 10, Operand.const (Value.int IntKind.i64 (Int.ofNat 1000000))] }, argTypes := { toList := [3, 3] } },
            guard := none, bef := [7, 6, 5, 4, 3, 2, 1, 0] },
          { dst := some 12, op := Op.build 44 { toList := [(0, Operand.tmp 5), (1, Operand.tmp 8), (2, Operand.tmp 11)] }, guard := none, bef := [2, 1, 0, 5, 4, 3, 8, 7, 6] },
          { dst := some 13, op := Op.build 59 { toList := [(0, Operand.tmp 12)] }, guard := none, bef := [9, 2, 1, 0, 5, 4, 3, 8, 7, 6] },
          { dst := some 14, op := Op.box 59 (Operand.tmp 13), guard := none, bef := [10, 9, 2, 1, 0, 5, 4, 3, 8, 7, 6] },
          { dst := some 2, op := Op.assign (Operand.tmp 14), guard := none, bef := [11, 10, 9, 2, 1, 0, 5, 4, 3, 8, 7, 6] }]).seq
    IC.ret)
theorem ic12_eq : Try.f12.body.map comp = some ic12 := by kernel_rfl
theorem ic12_ok : Try.f12.body.map (okC Try.f12.ntmps) = some true := by kernel_rfl
theorem ic12_nm : (Try.f12.name != "runtime.NumGoroutine") = true := by kernel_rfl
@[simp] theorem ic12_n : Try.f12.ntmps = 15 := by kernel_rfl
@[simp] theorem ic12_r : Try.f12.results.toList = [ResultVar.tmp 2] := by kernel_rfl

def ic13 : IC :=
  (IC.ops [{ dst := some 2, op := Op.assign (Operand.const (Value.pointer none)), guard := none }]).seq
  ((IC.ops
        [{ dst := some 3, op := Op.move (Operand.tmp 0), guard := none },
          { dst := some 4,
            op := Op.call { callee := Callee.builtin Builtin.min, args := { toList := [Operand.tmp 3, Operand.const (Value.int IntKind.i64 (Int.ofNat 500))] }, argTypes := { toList := [3, 3] } },
            guard := none },
          { dst := some 5,
            op := Op.call { callee := Callee.builtin Builtin.max, args := { toList := [Operand.const (Value.int IntKind.i64 (Int.ofNat 0)), Operand.tmp 4] }, argTypes := { toList := [3, 3] } },
            guard := none },
          { dst := some 6, op := Op.build 61 { toList := [(0, Operand.tmp 5)] }, guard := none }, { dst := some 7, op := Op.box 61 (Operand.tmp 6), guard := none },
          { dst := some 2, op := Op.assign (Operand.tmp 7), guard := none }]).seq
    IC.ret)
theorem ic13_eq : Try.f13.body.map comp = some ic13 := by kernel_rfl
theorem ic13_ok : Try.f13.body.map (okC Try.f13.ntmps) = some true := by kernel_rfl
theorem ic13_nm : (Try.f13.name != "runtime.NumGoroutine") = true := by kernel_rfl
@[simp] theorem ic13_n : Try.f13.ntmps = 8 := by kernel_rfl
@[simp] theorem ic13_r : Try.f13.results.toList = [ResultVar.tmp 2] := by kernel_rfl

def ic14 : IC :=
  (IC.ops [{ dst := some 4, op := Op.alloc 54, guard := none }]).seq
  (((IC.ops [{ dst := some 5, op := Op.move (Operand.tmp 1), guard := none }, { dst := some 6, op := Op.unOp UnOp.not 4 (Operand.tmp 5), guard := none }]).seq
        (IC.cond (Operand.tmp 6)
          ((IC.ops
                [{ dst := some 7, op := Op.move (Operand.tmp 0), guard := none }, { dst := some 8, op := Op.nilCheck (Operand.tmp 7), guard := none },
                  { dst := some 9, op := Op.fieldAddr 61 (Operand.tmp 8) 1, guard := none },
                  { dst := none, op := Op.store 3 (Operand.tmp 9) (Operand.const (Value.int IntKind.i64 (Int.ofNat 0))), guard := none }]).seq
            ((IC.ops [{ dst := some 10, op := Op.build 54 { toList := [] }, guard := none }, { dst := none, op := Op.store 54 (Operand.tmp 4) (Operand.tmp 10), guard := none }]).seq IC.ret))
          IC.skip)).seq
    ((IC.ops
          [{ dst := some 11, op := Op.move (Operand.tmp 0), guard := none },
            { dst := some 12, op := Op.call { callee := Callee.value (Operand.func 20), args := { toList := [Operand.tmp 11] }, argTypes := { toList := [47] } }, guard := none }]).seq
      ((IC.opsD
            [{ dst := some 13, op := Op.move (Operand.tmp 0), guard := none }, { dst := some 14, op := Op.nilCheck (Operand.tmp 13), guard := none, bef := [0] },
              { dst := some 15, op := Op.fieldAddr 61 (Operand.tmp 14) 1, guard := none, bef := [1, 0] }, { dst := some 16, op := Op.load 3 (Operand.tmp 15), guard := none, bef := [2, 1, 0] },
              { dst := some 17, op := Op.binOp BinOp.eql 3 (Operand.tmp 16) (Operand.const (Value.int IntKind.i64 (Int.ofNat 1))) 3, guard := none, bef := [3, 2, 1, 0] },
              { dst := some 18, op := Op.move (Operand.tmp 0), guard := none }, { dst := some 19, op := Op.nilCheck (Operand.tmp 18), guard := none, bef := [5] },
              { dst := some 20, op := Op.fieldAddr 61 (Operand.tmp 19) 1, guard := none, bef := [6, 5] }, { dst := some 21, op := Op.load 3 (Operand.tmp 20), guard := none, bef := [7, 6, 5] },
              { dst := some 22, op := Op.binOp BinOp.eql 3 (Operand.tmp 21) (Operand.const (Value.int IntKind.i64 (Int.ofNat 3))) 3, guard := none, bef := [8, 7, 6, 5] },
              { dst := some 23, op := Op.move (Operand.tmp 0), guard := none }, { dst := some 24, op := Op.nilCheck (Operand.tmp 23), guard := none, bef := [10] },
              { dst := some 25, op := Op.fieldAddr 61 (Operand.tmp 24) 1, guard := none, bef := [11, 10] }, { dst := some 26, op := Op.load 3 (Operand.tmp 25), guard := none, bef := [12, 11, 10] },
              { dst := some 27, op := Op.binOp BinOp.eql 3 (Operand.tmp 26) (Operand.const (Value.int IntKind.i64 (Int.ofNat 3))) 3, guard := none, bef := [13, 12, 11, 10] },
              { dst := some 28, op := Op.build 54 { toList := [(0, Operand.const (Value.bool true)), (1, Operand.tmp 17), (2, Operand.tmp 22), (3, Operand.tmp 27)] }, guard := none,
                bef := [4, 3, 2, 1, 0, 9, 8, 7, 6, 5, 14, 13, 12, 11, 10] },
              { dst := none, op := Op.store 54 (Operand.tmp 4) (Operand.tmp 28), guard := none, bef := [15, 4, 3, 2, 1, 0, 9, 8, 7, 6, 5, 14, 13, 12, 11, 10] }]).seq
        IC.ret)))
theorem ic14_eq : Try.f14.body.map comp = some ic14 := by kernel_rfl
theorem ic14_ok : Try.f14.body.map (okC Try.f14.ntmps) = some true := by kernel_rfl
theorem ic14_nm : (Try.f14.name != "runtime.NumGoroutine") = true := by kernel_rfl
@[simp] theorem ic14_n : Try.f14.ntmps = 29 := by kernel_rfl
@[simp] theorem ic14_r : Try.f14.results.toList = [ResultVar.cell 4 54] := by kernel_rfl

def ic15 : IC :=
  (IC.ops [{ dst := some 4, op := Op.assign (Operand.const (Value.bool false)), guard := none }]).seq
  ((IC.ops
        [{ dst := some 6, op := Op.move (Operand.tmp 0), guard := none }, { dst := some 7, op := Op.nilCheck (Operand.tmp 6), guard := none },
          { dst := some 8, op := Op.fieldAddr 59 (Operand.tmp 7) 5, guard := none }, { dst := none, op := Op.store 4 (Operand.tmp 8) (Operand.const (Value.bool false)), guard := none }]).seq
    ((IC.ops
          [{ dst := some 9, op := Op.move (Operand.tmp 0), guard := none }, { dst := some 10, op := Op.move (Operand.tmp 1), guard := none },
            { dst := some 11, op := Op.call { callee := Callee.value (Operand.func 21), args := { toList := [Operand.tmp 9, Operand.tmp 10] }, argTypes := { toList := [41, 4] } }, guard := none },
            { dst := some 5, op := Op.assign (Operand.tmp 11), guard := none }]).seq
      ((IC.ops
            [{ dst := some 12, op := Op.move (Operand.tmp 0), guard := none }, { dst := some 13, op := Op.nilCheck (Operand.tmp 12), guard := none },
              { dst := some 14, op := Op.fieldAddr 59 (Operand.tmp 13) 1, guard := none }, { dst := some 15, op := Op.load 3 (Operand.tmp 14), guard := none },
              { dst := some 16, op := Op.binOp BinOp.add 3 (Operand.tmp 15) (Operand.const (Value.int IntKind.i64 (Int.ofNat 1))) 3, guard := none },
              { dst := some 17, op := Op.nilCheck (Operand.tmp 12), guard := none }, { dst := some 18, op := Op.fieldAddr 59 (Operand.tmp 17) 1, guard := none },
              { dst := none, op := Op.store 3 (Operand.tmp 18) (Operand.tmp 16), guard := none }]).seq
        ((IC.ops
              [{ dst := some 19, op := Op.move (Operand.tmp 0), guard := none }, { dst := some 20, op := Op.nilCheck (Operand.tmp 19), guard := none },
                { dst := some 21, op := Op.fieldAddr 59 (Operand.tmp 20) 2, guard := none }, { dst := some 22, op := Op.load 3 (Operand.tmp 21), guard := none },
                { dst := some 23, op := Op.binOp BinOp.add 3 (Operand.tmp 22) (Operand.const (Value.int IntKind.i64 (Int.ofNat 1))) 3, guard := none },
                { dst := some 24, op := Op.nilCheck (Operand.tmp 19), guard := none }, { dst := some 25, op := Op.fieldAddr 59 (Operand.tmp 24) 2, guard := none },
                { dst := none, op := Op.store 3 (Operand.tmp 25) (Operand.tmp 23), guard := none }]).seq
          (((IC.ops [{ dst := some 26, op := Op.move (Operand.tmp 5), guard := none }, { dst := some 27, op := Op.unOp UnOp.not 4 (Operand.tmp 26), guard := none }]).seq
                (IC.cond (Operand.tmp 27)
                  (IC.ops
                    [{ dst := some 28, op := Op.move (Operand.tmp 0), guard := none }, { dst := some 29, op := Op.nilCheck (Operand.tmp 28), guard := none },
                      { dst := some 30, op := Op.fieldAddr 59 (Operand.tmp 29) 2, guard := none },
                      { dst := none, op := Op.store 3 (Operand.tmp 30) (Operand.const (Value.int IntKind.i64 (Int.ofNat 0))), guard := none }])
                  IC.skip)).seq
            ((IC.ops [{ dst := some 31, op := Op.move (Operand.tmp 5), guard := none }, { dst := some 4, op := Op.assign (Operand.tmp 31), guard := none }]).seq IC.ret))))))
theorem ic15_eq : Try.f15.body.map comp = some ic15 := by kernel_rfl
theorem ic15_ok : Try.f15.body.map (okC Try.f15.ntmps) = some true := by kernel_rfl
theorem ic15_nm : (Try.f15.name != "runtime.NumGoroutine") = true := by kernel_rfl
@[simp] theorem ic15_n : Try.f15.ntmps = 32 := by kernel_rfl
@[simp] theorem ic15_r : Try.f15.results.toList = [ResultVar.tmp 4] := by kernel_rfl

def ic16 : IC :=
  (IC.ops [{ dst := some 2, op := Op.assign (Operand.const (Value.bool false)), guard := none }]).seq
  ((IC.ops
        [{ dst := some 3, op := Op.move (Operand.tmp 0), guard := none }, { dst := some 4, op := Op.nilCheck (Operand.tmp 3), guard := none },
          { dst := some 5, op := Op.fieldAddr 59 (Operand.tmp 4) 4, guard := none }, { dst := some 6, op := Op.load 4 (Operand.tmp 5), guard := none },
          { dst := some 2, op := Op.assign (Operand.tmp 6), guard := none }]).seq
    IC.ret)
theorem ic16_eq : Try.f16.body.map comp = some ic16 := by kernel_rfl
theorem ic16_ok : Try.f16.body.map (okC Try.f16.ntmps) = some true := by kernel_rfl
theorem ic16_nm : (Try.f16.name != "runtime.NumGoroutine") = true := by kernel_rfl
@[simp] theorem ic16_n : Try.f16.ntmps = 7 := by kernel_rfl
@[simp] theorem ic16_r : Try.f16.results.toList = [ResultVar.tmp 2] := by kernel_rfl

def ic17 : IC :=
  (IC.ops [{ dst := some 2, op := Op.assign (Operand.const (Value.bool false)), guard := none }]).seq
  ((IC.ops
        [{ dst := some 3, op := Op.move (Operand.tmp 0), guard := none }, { dst := some 4, op := Op.nilCheck (Operand.tmp 3), guard := none },
          { dst := some 5, op := Op.fieldAddr 59 (Operand.tmp 4) 5, guard := none }, { dst := some 6, op := Op.load 4 (Operand.tmp 5), guard := none },
          { dst := some 2, op := Op.assign (Operand.tmp 6), guard := none }]).seq
    IC.ret)
theorem ic17_eq : Try.f17.body.map comp = some ic17 := by kernel_rfl
theorem ic17_ok : Try.f17.body.map (okC Try.f17.ntmps) = some true := by kernel_rfl
theorem ic17_nm : (Try.f17.name != "runtime.NumGoroutine") = true := by kernel_rfl
@[simp] theorem ic17_n : Try.f17.ntmps = 7 := by kernel_rfl
@[simp] theorem ic17_r : Try.f17.results.toList = [ResultVar.tmp 2] := by kernel_rfl

def ic18 : IC :=
  (IC.ops [{ dst := some 6, op := Op.assign (Operand.const (Value.int IntKind.i64 (Int.ofNat 0))), guard := none }]).seq
  ((IC.ops
        [{ dst := some 7, op := Op.move (Operand.tmp 2), guard := none },
          { dst := some 8,
            op := Op.call { callee := Callee.builtin Builtin.max, args := { toList := [Operand.tmp 7, Operand.const (Value.int IntKind.i64 (Int.ofNat 0))] }, argTypes := { toList := [3, 3] } },
            guard := none },
          { dst := some 2, op := Op.assign (Operand.tmp 8), guard := none }]).seq
    (((IC.ops
              [{ dst := some 9, op := Op.move (Operand.tmp 0), guard := none }, { dst := some 10, op := Op.move (Operand.tmp 1), guard := none },
                { dst := some 11, op := Op.binOp BinOp.lss 3 (Operand.tmp 9) (Operand.tmp 10) 3, guard := none }]).seq
          (IC.cond (Operand.tmp 11)
            ((IC.ops
                  [{ dst := some 12, op := Op.move (Operand.tmp 0), guard := none }, { dst := some 13, op := Op.move (Operand.tmp 2), guard := none },
                    { dst := some 14, op := Op.binOp BinOp.add 3 (Operand.tmp 12) (Operand.tmp 13) 3, guard := none }, { dst := some 15, op := Op.move (Operand.tmp 1), guard := none },
                    { dst := some 16, op := Op.call { callee := Callee.builtin Builtin.min, args := { toList := [Operand.tmp 14, Operand.tmp 15] }, argTypes := { toList := [3, 3] } }, guard := none },
                    { dst := some 6, op := Op.assign (Operand.tmp 16), guard := none }]).seq
              IC.ret)
            IC.skip)).seq
      ((IC.ops
            [{ dst := some 17, op := Op.move (Operand.tmp 0), guard := none }, { dst := some 18, op := Op.move (Operand.tmp 2), guard := none },
              { dst := some 19, op := Op.binOp BinOp.sub 3 (Operand.tmp 17) (Operand.tmp 18) 3, guard := none }, { dst := some 20, op := Op.move (Operand.tmp 1), guard := none },
              { dst := some 21, op := Op.call { callee := Callee.builtin Builtin.max, args := { toList := [Operand.tmp 19, Operand.tmp 20] }, argTypes := { toList := [3, 3] } }, guard := none },
              { dst := some 6, op := Op.assign (Operand.tmp 21), guard := none }]).seq
        IC.ret)))
theorem ic18_eq : Try.f18.body.map comp = some ic18 := by kernel_rfl
theorem ic18_ok : Try.f18.body.map (okC Try.f18.ntmps) = some true := by kernel_rfl
theorem ic18_nm : (Try.f18.name != "runtime.NumGoroutine") = true := by kernel_rfl
@[simp] theorem ic18_n : Try.f18.ntmps = 22 := by kernel_rfl
@[simp] theorem ic18_r : Try.f18.results.toList = [ResultVar.tmp 6] := by kernel_rfl

def ic19 : IC :=
  (IC.ops [{ dst := some 4, op := Op.assign (Operand.const (Value.int IntKind.i64 (Int.ofNat 0))), guard := none }]).seq
  ((IC.ops
        [{ dst := some 5, op := Op.move (Operand.tmp 0), guard := none }, { dst := some 6, op := Op.move (Operand.tmp 1), guard := none },
          { dst := some 7, op := Op.call { callee := Callee.builtin Builtin.min, args := { toList := [Operand.tmp 5, Operand.tmp 6] }, argTypes := { toList := [3, 3] } }, guard := none },
          { dst := some 8,
            op := Op.call { callee := Callee.builtin Builtin.max, args := { toList := [Operand.const (Value.int IntKind.i64 (Int.ofNat 1)), Operand.tmp 7] }, argTypes := { toList := [3, 3] } },
            guard := none },
          { dst := some 4, op := Op.assign (Operand.tmp 8), guard := none }]).seq
    IC.ret)
theorem ic19_eq : Try.f19.body.map comp = some ic19 := by kernel_rfl
theorem ic19_ok : Try.f19.body.map (okC Try.f19.ntmps) = some true := by kernel_rfl
theorem ic19_nm : (Try.f19.name != "runtime.NumGoroutine") = true := by kernel_rfl
@[simp] theorem ic19_n : Try.f19.ntmps = 9 := by kernel_rfl
@[simp] theorem ic19_r : Try.f19.results.toList = [ResultVar.tmp 4] := by kernel_rfl

def ic20 : IC :=
  ((IC.ops
          [{ dst := some 2, op := Op.move (Operand.tmp 0), guard := none }, { dst := some 3, op := Op.nilCheck (Operand.tmp 2), guard := none },
            { dst := some 4, op := Op.fieldAddr 61 (Operand.tmp 3) 1, guard := none }, { dst := some 5, op := Op.load 3 (Operand.tmp 4), guard := none }]).seq
      (IC.block 0
        ((IC.ops
              [{ dst := some 7, op := Op.binOp BinOp.eql 3 (Operand.tmp 5) (Operand.const (Value.int IntKind.i64 (Int.ofNat 0))) 3, guard := none },
                { dst := some 6, op := Op.assign (Operand.tmp 7), guard := none }]).seq
          (IC.cond (Operand.tmp 6)
            (IC.ops
              [{ dst := some 8, op := Op.move (Operand.tmp 0), guard := none }, { dst := some 9, op := Op.move (Operand.tmp 0), guard := none },
                { dst := some 10, op := Op.move (Operand.tmp 0), guard := none }, { dst := some 11, op := Op.nilCheck (Operand.tmp 10), guard := none },
                { dst := some 12, op := Op.fieldAddr 61 (Operand.tmp 11) 0, guard := none }, { dst := some 13, op := Op.load 3 (Operand.tmp 12), guard := none },
                { dst := some 14, op := Op.nilCheck (Operand.tmp 8), guard := none }, { dst := some 15, op := Op.fieldAddr 61 (Operand.tmp 14) 1, guard := none },
                { dst := none, op := Op.store 3 (Operand.tmp 15) (Operand.const (Value.int IntKind.i64 (Int.ofNat 1))), guard := none },
                { dst := some 16, op := Op.nilCheck (Operand.tmp 9), guard := none }, { dst := some 17, op := Op.fieldAddr 61 (Operand.tmp 16) 2, guard := none },
                { dst := none, op := Op.store 3 (Operand.tmp 17) (Operand.tmp 13), guard := none }])
            ((IC.ops
                  [{ dst := some 19, op := Op.binOp BinOp.eql 3 (Operand.tmp 5) (Operand.const (Value.int IntKind.i64 (Int.ofNat 2))) 3, guard := none },
                    { dst := some 18, op := Op.assign (Operand.tmp 19), guard := none }]).seq
              (IC.cond (Operand.tmp 18)
                (IC.ops
                  [{ dst := some 20, op := Op.move (Operand.tmp 0), guard := none }, { dst := some 21, op := Op.nilCheck (Operand.tmp 20), guard := none },
                    { dst := some 22, op := Op.fieldAddr 61 (Operand.tmp 21) 1, guard := none },
                    { dst := none, op := Op.store 3 (Operand.tmp 22) (Operand.const (Value.int IntKind.i64 (Int.ofNat 3))), guard := none }])
                IC.skip)))))).seq
  ((IC.ops
        [{ dst := some 23, op := Op.move (Operand.tmp 0), guard := none }, { dst := some 24, op := Op.nilCheck (Operand.tmp 23), guard := none },
          { dst := some 25, op := Op.fieldAddr 61 (Operand.tmp 24) 1, guard := none }, { dst := some 26, op := Op.load 3 (Operand.tmp 25), guard := none },
          { dst := some 27, op := Op.binOp BinOp.eql 3 (Operand.tmp 26) (Operand.const (Value.int IntKind.i64 (Int.ofNat 1))) 3, guard := none }]).seq
    (IC.cond (Operand.tmp 27)
      (((IC.ops
                [{ dst := some 28, op := Op.move (Operand.tmp 0), guard := none }, { dst := some 29, op := Op.nilCheck (Operand.tmp 28), guard := none },
                  { dst := some 30, op := Op.fieldAddr 61 (Operand.tmp 29) 2, guard := none }, { dst := some 31, op := Op.load 3 (Operand.tmp 30), guard := none },
                  { dst := some 32, op := Op.binOp BinOp.eql 3 (Operand.tmp 31) (Operand.const (Value.int IntKind.i64 (Int.ofNat 0))) 3, guard := none }]).seq
            (IC.cond (Operand.tmp 32)
              (IC.ops
                [{ dst := some 33, op := Op.move (Operand.tmp 0), guard := none }, { dst := some 34, op := Op.nilCheck (Operand.tmp 33), guard := none },
                  { dst := some 35, op := Op.fieldAddr 61 (Operand.tmp 34) 1, guard := none },
                  { dst := none, op := Op.store 3 (Operand.tmp 35) (Operand.const (Value.int IntKind.i64 (Int.ofNat 2))), guard := none }])
              IC.skip)).seq
        (IC.ops
          [{ dst := some 36, op := Op.move (Operand.tmp 0), guard := none }, { dst := some 37, op := Op.nilCheck (Operand.tmp 36), guard := none },
            { dst := some 38, op := Op.fieldAddr 61 (Operand.tmp 37) 2, guard := none }, { dst := some 39, op := Op.load 3 (Operand.tmp 38), guard := none },
            { dst := some 40, op := Op.binOp BinOp.sub 3 (Operand.tmp 39) (Operand.const (Value.int IntKind.i64 (Int.ofNat 1))) 3, guard := none },
            { dst := some 41, op := Op.nilCheck (Operand.tmp 36), guard := none }, { dst := some 42, op := Op.fieldAddr 61 (Operand.tmp 41) 2, guard := none },
            { dst := none, op := Op.store 3 (Operand.tmp 42) (Operand.tmp 40), guard := none }]))
      IC.skip))
theorem ic20_eq : Try.f20.body.map comp = some ic20 := by kernel_rfl
theorem ic20_ok : Try.f20.body.map (okC Try.f20.ntmps) = some true := by kernel_rfl
theorem ic20_nm : (Try.f20.name != "runtime.NumGoroutine") = true := by kernel_rfl
@[simp] theorem ic20_n : Try.f20.ntmps = 43 := by kernel_rfl
@[simp] theorem ic20_r : Try.f20.results.toList = [] := by kernel_rfl

def ic21 : IC :=
  (IC.ops [{ dst := some 4, op := Op.assign (Operand.const (Value.bool false)), guard := none }]).seq
  (((IC.ops
            [{ dst := some 5, op := Op.move (Operand.tmp 1), guard := none }, { dst := some 6, op := Op.unOp UnOp.not 4 (Operand.tmp 5), guard := none },
              { dst := some 7, op := Op.move (Operand.tmp 6), guard := none }, { dst := some 8, op := Op.move (Operand.tmp 0), guard := some (some 7, false) },
              { dst := some 9, op := Op.nilCheck (Operand.tmp 8), guard := some (some 7, false) }, { dst := some 10, op := Op.fieldAddr 59 (Operand.tmp 9) 4, guard := some (some 7, false) },
              { dst := some 11, op := Op.load 4 (Operand.tmp 10), guard := some (some 7, false) },
              { dst := some 12, op := Op.pick (Operand.tmp 7) (Operand.const (Value.bool true)) (Operand.tmp 11), guard := none }]).seq
        (IC.cond (Operand.tmp 12) ((IC.ops [{ dst := some 4, op := Op.assign (Operand.const (Value.bool false)), guard := none }]).seq IC.ret) IC.skip)).seq
    (((IC.ops
              [{ dst := some 13, op := Op.move (Operand.tmp 0), guard := none }, { dst := some 14, op := Op.nilCheck (Operand.tmp 13), guard := none },
                { dst := some 15, op := Op.fieldAddr 59 (Operand.tmp 14) 2, guard := none }, { dst := some 16, op := Op.load 3 (Operand.tmp 15), guard := none },
                { dst := some 17, op := Op.binOp BinOp.eql 3 (Operand.tmp 16) (Operand.const (Value.int IntKind.i64 (Int.ofNat 0))) 3, guard := none }]).seq
          (IC.cond (Operand.tmp 17)
            ((IC.ops
                  [{ dst := some 18, op := Op.move (Operand.tmp 0), guard := none },
                    { dst := some 19, op := Op.call { callee := Callee.value (Operand.func 22), args := { toList := [Operand.tmp 18] }, argTypes := { toList := [41] } }, guard := none }]).seq
              (((IC.opsD
                        [{ dst := some 20, op := Op.move (Operand.tmp 0), guard := none }, { dst := some 21, op := Op.nilCheck (Operand.tmp 20), guard := none, bef := [0] },
                          { dst := some 22, op := Op.fieldAddr 59 (Operand.tmp 21) 3, guard := none, bef := [1, 0] },
                          { dst := some 23, op := Op.load 27 (Operand.tmp 22), guard := none, bef := [2, 1, 0] },
                          { dst := some 24, op := Op.call { callee := Callee.builtin Builtin.len, args := { toList := [Operand.tmp 23] }, argTypes := { toList := [27] } }, guard := none,
                            bef := [3, 2, 1, 0] },
                          { dst := some 25, op := Op.move (Operand.tmp 0), guard := none }, { dst := some 26, op := Op.nilCheck (Operand.tmp 25), guard := none, bef := [5] },
                          { dst := some 27, op := Op.fieldAddr 59 (Operand.tmp 26) 0, guard := none, bef := [6, 5] },
                          { dst := some 28, op := Op.fieldAddr 44 (Operand.tmp 27) 1, guard := none, bef := [7, 6, 5] },
                          { dst := some 29, op := Op.load 3 (Operand.tmp 28), guard := none, bef := [8, 7, 6, 5] },
                          { dst := some 30, op := Op.binOp BinOp.geq 3 (Operand.tmp 24) (Operand.tmp 29) 3, guard := none, bef := [4, 3, 2, 1, 0, 9, 8, 7, 6, 5] }]).seq
                    (IC.cond (Operand.tmp 30)
                      ((IC.ops
                            [{ dst := some 31, op := Op.move (Operand.tmp 0), guard := none }, { dst := some 32, op := Op.nilCheck (Operand.tmp 31), guard := none },
                              { dst := some 33, op := Op.fieldAddr 59 (Operand.tmp 32) 5, guard := none },
                              { dst := none, op := Op.store 4 (Operand.tmp 33) (Operand.const (Value.bool true)), guard := none }]).seq
                        ((IC.ops [{ dst := some 4, op := Op.assign (Operand.const (Value.bool false)), guard := none }]).seq IC.ret))
                      IC.skip)).seq
                (IC.opsD
                  [{ dst := some 34, op := Op.move (Operand.tmp 0), guard := none }, { dst := some 35, op := Op.move (Operand.tmp 0), guard := none },
                    { dst := some 36, op := Op.nilCheck (Operand.tmp 35), guard := none, bef := [1] }, { dst := some 37, op := Op.fieldAddr 59 (Operand.tmp 36) 3, guard := none, bef := [2, 1] },
                    { dst := some 38, op := Op.load 27 (Operand.tmp 37), guard := none, bef := [3, 2, 1] }, { dst := some 39, op := Op.move (Operand.tmp 0), guard := none },
                    { dst := some 40, op := Op.nilCheck (Operand.tmp 39), guard := none, bef := [5] }, { dst := some 41, op := Op.fieldAddr 59 (Operand.tmp 40) 1, guard := none, bef := [6, 5] },
                    { dst := some 42, op := Op.load 3 (Operand.tmp 41), guard := none, bef := [7, 6, 5] },
                    { dst := some 43, op := Op.buildSlice 27 1 { toList := [(0, Operand.tmp 42)] }, guard := none, bef := [8, 7, 6, 5] },
                    { dst := some 44, op := Op.call { callee := Callee.builtin Builtin.append, args := { toList := [Operand.tmp 38, Operand.tmp 43] }, argTypes := { toList := [27, 27] } },
                      guard := none, bef := [4, 3, 2, 1, 9, 8, 7, 6, 5] },
                    { dst := some 45, op := Op.nilCheck (Operand.tmp 34), guard := none, bef := [0, 1, 2, 3, 4, 5, 6, 7, 8, 9, 10] },
                    { dst := some 46, op := Op.fieldAddr 59 (Operand.tmp 45) 3, guard := none, bef := [11, 0, 1, 2, 3, 4, 5, 6, 7, 8, 9, 10] },
                    { dst := none, op := Op.store 27 (Operand.tmp 46) (Operand.tmp 44), guard := none, bef := [12, 11, 0, 1, 2, 3, 4, 5, 6, 7, 8, 9, 10] }])))
            IC.skip)).seq
      (((IC.opsD
                [{ dst := some 47, op := Op.move (Operand.tmp 0), guard := none }, { dst := some 48, op := Op.nilCheck (Operand.tmp 47), guard := none, bef := [0] },
                  { dst := some 49, op := Op.fieldAddr 59 (Operand.tmp 48) 2, guard := none, bef := [1, 0] }, { dst := some 50, op := Op.load 3 (Operand.tmp 49), guard := none, bef := [2, 1, 0] },
                  { dst := some 51, op := Op.move (Operand.tmp 0), guard := none }, { dst := some 52, op := Op.nilCheck (Operand.tmp 51), guard := none, bef := [4] },
                  { dst := some 53, op := Op.fieldAddr 59 (Operand.tmp 52) 0, guard := none, bef := [5, 4] },
                  { dst := some 54, op := Op.fieldAddr 44 (Operand.tmp 53) 0, guard := none, bef := [6, 5, 4] },
                  { dst := some 55, op := Op.load 3 (Operand.tmp 54), guard := none, bef := [7, 6, 5, 4] },
                  { dst := some 56, op := Op.binOp BinOp.geq 3 (Operand.tmp 50) (Operand.tmp 55) 3, guard := none, bef := [3, 2, 1, 0, 8, 7, 6, 5, 4] }]).seq
            (IC.cond (Operand.tmp 56)
              ((IC.ops
                    [{ dst := some 57, op := Op.move (Operand.tmp 0), guard := none }, { dst := some 58, op := Op.nilCheck (Operand.tmp 57), guard := none },
                      { dst := some 59, op := Op.fieldAddr 59 (Operand.tmp 58) 4, guard := none },
                      { dst := none, op := Op.store 4 (Operand.tmp 59) (Operand.const (Value.bool true)), guard := none }]).seq
                ((IC.ops [{ dst := some 4, op := Op.assign (Operand.const (Value.bool false)), guard := none }]).seq IC.ret))
              IC.skip)).seq
        ((IC.ops [{ dst := some 4, op := Op.assign (Operand.const (Value.bool true)), guard := none }]).seq IC.ret))))
theorem ic21_eq : Try.f21.body.map comp = some ic21 := by kernel_rfl
theorem ic21_ok : Try.f21.body.map (okC Try.f21.ntmps) = some true := by kernel_rfl
theorem ic21_nm : (Try.f21.name != "runtime.NumGoroutine") = true := by kernel_rfl
@[simp] theorem ic21_n : Try.f21.ntmps = 60 := by kernel_rfl
@[simp] theorem ic21_r : Try.f21.results.toList = [ResultVar.tmp 4] := by kernel_rfl

def ic22 : IC :=
  ((IC.label 0).seq
    (IC.block 0
      (IC.block 1
          ((IC.block 2
                (((IC.ops
                          [{ dst := some 3, op := Op.move (Operand.tmp 0), guard := none }, { dst := some 4, op := Op.nilCheck (Operand.tmp 3), guard := none },
                            { dst := some 5, op := Op.fieldAddr 59 (Operand.tmp 4) 3, guard := none }, { dst := some 6, op := Op.load 27 (Operand.tmp 5), guard := none },
                            { dst := some 7, op := Op.call { callee := Callee.builtin Builtin.len, args := { toList := [Operand.tmp 6] }, argTypes := { toList := [27] } }, guard := none },
                            { dst := some 8, op := Op.binOp BinOp.eql 3 (Operand.tmp 7) (Operand.const (Value.int IntKind.i64 (Int.ofNat 0))) 3, guard := none },
                            { dst := some 2, op := Op.assign (Operand.tmp 8), guard := none }]).seq
                      (IC.cond (Operand.tmp 2) IC.skip
                        (IC.opsD
                          [{ dst := some 9, op := Op.move (Operand.tmp 0), guard := none }, { dst := some 10, op := Op.nilCheck (Operand.tmp 9), guard := none, bef := [0] },
                            { dst := some 11, op := Op.fieldAddr 59 (Operand.tmp 10) 3, guard := none, bef := [1, 0] },
                            { dst := some 12, op := Op.load 27 (Operand.tmp 11), guard := none, bef := [2, 1, 0] },
                            { dst := some 13, op := Op.indexAddr 27 (Operand.tmp 12) (Operand.const (Value.int IntKind.i64 (Int.ofNat 0))), guard := none, bef := [3, 2, 1, 0] },
                            { dst := some 14, op := Op.load 3 (Operand.tmp 13), guard := none, bef := [4, 3, 2, 1, 0] }, { dst := some 15, op := Op.move (Operand.tmp 0), guard := none },
                            { dst := some 16, op := Op.nilCheck (Operand.tmp 15), guard := none, bef := [6] },
                            { dst := some 17, op := Op.fieldAddr 59 (Operand.tmp 16) 1, guard := none, bef := [7, 6] },
                            { dst := some 18, op := Op.load 3 (Operand.tmp 17), guard := none, bef := [8, 7, 6] }, { dst := some 19, op := Op.move (Operand.tmp 0), guard := none },
                            { dst := some 20, op := Op.nilCheck (Operand.tmp 19), guard := none, bef := [10] },
                            { dst := some 21, op := Op.fieldAddr 59 (Operand.tmp 20) 0, guard := none, bef := [11, 10] },
                            { dst := some 22, op := Op.fieldAddr 44 (Operand.tmp 21) 2, guard := none, bef := [12, 11, 10] },
                            { dst := some 23, op := Op.load 3 (Operand.tmp 22), guard := none, bef := [13, 12, 11, 10] },
                            { dst := some 24, op := Op.binOp BinOp.sub 3 (Operand.tmp 18) (Operand.tmp 23) 3, guard := none, bef := [9, 8, 7, 6, 14, 13, 12, 11, 10] },
                            { dst := some 25, op := Op.binOp BinOp.gtr 3 (Operand.tmp 14) (Operand.tmp 24) 3, guard := none, bef := [5, 4, 3, 2, 1, 0, 15, 9, 8, 7, 6, 14, 13, 12, 11, 10] },
                            { dst := some 2, op := Op.assign (Operand.tmp 25), guard := none, bef := [16, 5, 4, 3, 2, 1, 0, 15, 9, 8, 7, 6, 14, 13, 12, 11, 10] }]))).seq
                  (IC.cond (Operand.tmp 2) (IC.exit 0) IC.skip))).seq
            (IC.ops
              [{ dst := some 26, op := Op.move (Operand.tmp 0), guard := none }, { dst := some 27, op := Op.move (Operand.tmp 0), guard := none },
                { dst := some 28, op := Op.nilCheck (Operand.tmp 27), guard := none }, { dst := some 29, op := Op.fieldAddr 59 (Operand.tmp 28) 3, guard := none },
                { dst := some 30, op := Op.load 27 (Operand.tmp 29), guard := none },
                { dst := some 31, op := Op.slice 27 (Operand.tmp 30) (some (Operand.const (Value.int IntKind.i64 (Int.ofNat 1)))) none none, guard := none },
                { dst := some 32, op := Op.nilCheck (Operand.tmp 26), guard := none }, { dst := some 33, op := Op.fieldAddr 59 (Operand.tmp 32) 3, guard := none },
                { dst := none, op := Op.store 27 (Operand.tmp 33) (Operand.tmp 31), guard := none }]))).loop)).scope
theorem ic22_eq : Try.f22.body.map comp = some ic22 := by kernel_rfl
theorem ic22_ok : Try.f22.body.map (okC Try.f22.ntmps) = some true := by kernel_rfl
theorem ic22_nm : (Try.f22.name != "runtime.NumGoroutine") = true := by kernel_rfl
@[simp] theorem ic22_n : Try.f22.ntmps = 34 := by kernel_rfl
@[simp] theorem ic22_r : Try.f22.results.toList = [] := by kernel_rfl

-- f38: no body
-- f39: no body

end Go.Proofs.YtndcggncfecfiaaR
