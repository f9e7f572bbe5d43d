/- Contracts of functions of the seat's program, and what follows of them: I1. Conditions are in each statement. -/
import Derived.Test.YtdnigflmcmammaaDoorRows
import Derived.Test.YtdnigflmcmammaaDoorV3
set_option linter.unusedSimpArgs false
set_option linter.unusedVariables false
namespace Go.Proofs.YtdnigflmcmammaaDoor
open Go Go.Proofs Go.Vm

def ic3 : IC :=
  (IC.ops [{ dst := some 2, op := Op.box 25 (Operand.tmp 0), guard := none }, { dst := some 4, op := Op.assign (Operand.const (Value.bool false)), guard := none }]).seq
  (((IC.ops
            [{ dst := some 8, op := Op.call { callee := Callee.value (Operand.func 4), args := { toList := [] }, argTypes := { toList := [] } }, guard := none },
              { dst := some 9, op := Op.unOp UnOp.not 4 (Operand.tmp 8), guard := none }]).seq
        (IC.cond (Operand.tmp 9) ((IC.ops [{ dst := some 4, op := Op.assign (Operand.const (Value.bool false)), guard := none }]).seq IC.ret) IC.skip)).seq
    ((IC.ops
          [{ dst := some 10, op := Op.load 25 (Operand.tmp 2), guard := none },
            { dst := some 11, op := Op.call { callee := Callee.value (Operand.func 5), args := { toList := [Operand.tmp 10] }, argTypes := { toList := [25] } }, guard := none },
            { dst := some 5, op := Op.alloc 31, guard := none }, { dst := none, op := Op.store 31 (Operand.tmp 5) (Operand.tmp 11), guard := none }]).seq
      (((IC.ops
                [{ dst := some 12, op := Op.load 31 (Operand.tmp 5), guard := none },
                  { dst := some 13, op := Op.call { callee := Callee.value (Operand.func 6), args := { toList := [Operand.tmp 12] }, argTypes := { toList := [31] } }, guard := none },
                  { dst := some 14, op := Op.binOp BinOp.neq 34 (Operand.tmp 13) (Operand.const Value.nilIface) 34, guard := none }]).seq
            (IC.cond (Operand.tmp 14) ((IC.ops [{ dst := some 4, op := Op.assign (Operand.const (Value.bool false)), guard := none }]).seq IC.ret) IC.skip)).seq
        ((IC.ops
              [{ dst := some 15, op := Op.load 31 (Operand.tmp 5), guard := none }, { dst := some 6, op := Op.alloc 31, guard := none },
                { dst := none, op := Op.store 31 (Operand.tmp 6) (Operand.tmp 15), guard := none }]).seq
          (((IC.ops
                    [{ dst := some 16, op := Op.move (Operand.tmp 1), guard := none },
                      { dst := some 17, op := Op.binOp BinOp.rem 5 (Operand.tmp 16) (Operand.const (Value.int IntKind.u8 (Int.ofNat 7))) 5, guard := none }]).seq
                (IC.block 0
                  ((IC.ops
                        [{ dst := some 19, op := Op.binOp BinOp.eql 5 (Operand.tmp 17) (Operand.const (Value.int IntKind.u8 (Int.ofNat 0))) 5, guard := none },
                          { dst := some 18, op := Op.assign (Operand.tmp 19), guard := none }]).seq
                    (IC.cond (Operand.tmp 18)
                      (IC.ops
                        [{ dst := some 20, op := Op.load 31 (Operand.tmp 5), guard := none },
                          { dst := some 21, op := Op.call { callee := Callee.value (Operand.func 7), args := { toList := [Operand.tmp 20] }, argTypes := { toList := [31] } }, guard := none },
                          { dst := some 22, op := Op.binOp BinOp.sub 3 (Operand.tmp 21) (Operand.const (Value.int IntKind.i64 (Int.ofNat 1))) 3, guard := none },
                          { dst := some 23, op := Op.fieldAddr 31 (Operand.tmp 6) 4, guard := none }, { dst := none, op := Op.store 3 (Operand.tmp 23) (Operand.tmp 22), guard := none }])
                      ((IC.ops
                            [{ dst := some 25, op := Op.binOp BinOp.eql 5 (Operand.tmp 17) (Operand.const (Value.int IntKind.u8 (Int.ofNat 1))) 5, guard := none },
                              { dst := some 24, op := Op.assign (Operand.tmp 25), guard := none }]).seq
                        (IC.cond (Operand.tmp 24)
                          (IC.ops
                            [{ dst := some 26, op := Op.fieldAddr 31 (Operand.tmp 5) 4, guard := none }, { dst := some 27, op := Op.load 3 (Operand.tmp 26), guard := none },
                              { dst := some 28, op := Op.binOp BinOp.sub 3 (Operand.tmp 27) (Operand.const (Value.int IntKind.i64 (Int.ofNat 1))) 3, guard := none },
                              { dst := some 29, op := Op.fieldAddr 31 (Operand.tmp 6) 5, guard := none }, { dst := none, op := Op.store 3 (Operand.tmp 29) (Operand.tmp 28), guard := none }])
                          ((IC.ops
                                [{ dst := some 31, op := Op.binOp BinOp.eql 5 (Operand.tmp 17) (Operand.const (Value.int IntKind.u8 (Int.ofNat 2))) 5, guard := none },
                                  { dst := some 30, op := Op.assign (Operand.tmp 31), guard := none }]).seq
                            (IC.cond (Operand.tmp 30)
                              (IC.opsD
                                [{ dst := some 32, op := Op.fieldAddr 31 (Operand.tmp 5) 3, guard := none }, { dst := some 33, op := Op.load 3 (Operand.tmp 32), guard := none, bef := [0] },
                                  { dst := some 34, op := Op.load 31 (Operand.tmp 5), guard := none },
                                  { dst := some 35, op := Op.call { callee := Callee.value (Operand.func 7), args := { toList := [Operand.tmp 34] }, argTypes := { toList := [31] } }, guard := none,
                                    bef := [2] },
                                  { dst := some 36, op := Op.binOp BinOp.add 3 (Operand.tmp 33) (Operand.tmp 35) 3, guard := none, bef := [1, 0, 3, 2] },
                                  { dst := some 37, op := Op.binOp BinOp.sub 3 (Operand.tmp 36) (Operand.const (Value.int IntKind.i64 (Int.ofNat 1))) 3, guard := none, bef := [4, 1, 0, 3, 2] },
                                  { dst := some 38, op := Op.fieldAddr 31 (Operand.tmp 6) 2, guard := none, bef := [0, 1, 2, 3, 4, 5] },
                                  { dst := none, op := Op.store 3 (Operand.tmp 38) (Operand.tmp 37), guard := none, bef := [6, 0, 1, 2, 3, 4, 5] }])
                              ((IC.ops
                                    [{ dst := some 40, op := Op.binOp BinOp.eql 5 (Operand.tmp 17) (Operand.const (Value.int IntKind.u8 (Int.ofNat 3))) 5, guard := none },
                                      { dst := some 39, op := Op.assign (Operand.tmp 40), guard := none }]).seq
                                (IC.cond (Operand.tmp 39)
                                  (IC.ops
                                    [{ dst := some 41, op := Op.fieldAddr 31 (Operand.tmp 5) 11, guard := none }, { dst := some 42, op := Op.load 3 (Operand.tmp 41), guard := none },
                                      { dst := some 43, op := Op.fieldAddr 31 (Operand.tmp 6) 12, guard := none }, { dst := none, op := Op.store 3 (Operand.tmp 43) (Operand.tmp 42), guard := none }])
                                  ((IC.ops
                                        [{ dst := some 45, op := Op.binOp BinOp.eql 5 (Operand.tmp 17) (Operand.const (Value.int IntKind.u8 (Int.ofNat 4))) 5, guard := none },
                                          { dst := some 44, op := Op.assign (Operand.tmp 45), guard := none }]).seq
                                    (IC.cond (Operand.tmp 44)
                                      (IC.ops
                                        [{ dst := some 46, op := Op.fieldAddr 31 (Operand.tmp 5) 8, guard := none }, { dst := some 47, op := Op.fieldAddr 29 (Operand.tmp 46) 0, guard := none },
                                          { dst := some 48, op := Op.load 3 (Operand.tmp 47), guard := none }, { dst := some 49, op := Op.fieldAddr 31 (Operand.tmp 6) 9, guard := none },
                                          { dst := none, op := Op.store 3 (Operand.tmp 49) (Operand.tmp 48), guard := none }])
                                      ((IC.ops
                                            [{ dst := some 51, op := Op.binOp BinOp.eql 5 (Operand.tmp 17) (Operand.const (Value.int IntKind.u8 (Int.ofNat 5))) 5, guard := none },
                                              { dst := some 50, op := Op.assign (Operand.tmp 51), guard := none }]).seq
                                        (IC.cond (Operand.tmp 50)
                                          (IC.opsD
                                            [{ dst := some 52, op := Op.fieldAddr 31 (Operand.tmp 5) 2, guard := none },
                                              { dst := some 53, op := Op.load 3 (Operand.tmp 52), guard := none, bef := [0] }, { dst := some 54, op := Op.load 31 (Operand.tmp 5), guard := none },
                                              { dst := some 55, op := Op.call { callee := Callee.value (Operand.func 8), args := { toList := [Operand.tmp 54] }, argTypes := { toList := [31] } },
                                                guard := none, bef := [2] },
                                              { dst := some 56, op := Op.binOp BinOp.add 3 (Operand.tmp 53) (Operand.tmp 55) 3, guard := none, bef := [1, 0, 3, 2] },
                                              { dst := some 57, op := Op.binOp BinOp.sub 3 (Operand.tmp 56) (Operand.const (Value.int IntKind.i64 (Int.ofNat 1))) 3, guard := none,
                                                bef := [4, 1, 0, 3, 2] },
                                              { dst := some 58, op := Op.fieldAddr 31 (Operand.tmp 6) 6, guard := none, bef := [0, 1, 2, 3, 4, 5] },
                                              { dst := none, op := Op.store 3 (Operand.tmp 58) (Operand.tmp 57), guard := none, bef := [6, 0, 1, 2, 3, 4, 5] }])
                                          ((IC.ops
                                                [{ dst := some 60, op := Op.binOp BinOp.eql 5 (Operand.tmp 17) (Operand.const (Value.int IntKind.u8 (Int.ofNat 6))) 5, guard := none },
                                                  { dst := some 59, op := Op.assign (Operand.tmp 60), guard := none }]).seq
                                            (IC.cond (Operand.tmp 59)
                                              (IC.ops
                                                [{ dst := some 61, op := Op.fieldAddr 31 (Operand.tmp 5) 7, guard := none },
                                                  { dst := some 62, op := Op.fieldAddr 29 (Operand.tmp 61) 0, guard := none }, { dst := some 63, op := Op.load 3 (Operand.tmp 62), guard := none },
                                                  { dst := some 64, op := Op.binOp BinOp.sub 3 (Operand.tmp 63) (Operand.const (Value.int IntKind.i64 (Int.ofNat 1))) 3, guard := none },
                                                  { dst := some 65, op := Op.fieldAddr 31 (Operand.tmp 6) 7, guard := none },
                                                  { dst := some 66, op := Op.fieldAddr 29 (Operand.tmp 65) 1, guard := none },
                                                  { dst := none, op := Op.store 3 (Operand.tmp 66) (Operand.tmp 64), guard := none }])
                                              IC.skip)))))))))))))))).seq
            ((IC.ops
                  [{ dst := some 67, op := Op.load 31 (Operand.tmp 6), guard := none },
                    { dst := some 68, op := Op.call { callee := Callee.value (Operand.func 6), args := { toList := [Operand.tmp 67] }, argTypes := { toList := [31] } }, guard := none },
                    { dst := some 7, op := Op.assign (Operand.tmp 68), guard := none }]).seq
              ((IC.ops
                    [{ dst := some 69, op := Op.move (Operand.tmp 7), guard := none },
                      { dst := some 70,
                        op :=
                          Op.call
                            { callee := Callee.value (Operand.func 9), args := { toList := [Operand.tmp 69, Operand.const (Value.int IntKind.i64 (Int.ofNat 1))] },
                              argTypes := { toList := [34, 38] } },
                        guard := none },
                      { dst := some 71, op := Op.move (Operand.tmp 70), guard := none }, { dst := some 72, op := Op.move (Operand.tmp 7), guard := some (some 71, true) },
                      { dst := some 73, op := Op.call { callee := Callee.value (Operand.func 10), args := { toList := [Operand.tmp 72] }, argTypes := { toList := [34] } },
                        guard := some (some 71, true) },
                      { dst := some 74, op := Op.call { callee := Callee.builtin Builtin.len, args := { toList := [Operand.tmp 73] }, argTypes := { toList := [39] } }, guard := some (some 71, true) },
                      { dst := some 75, op := Op.binOp BinOp.eql 3 (Operand.tmp 74) (Operand.const (Value.int IntKind.i64 (Int.ofNat 1))) 3, guard := some (some 71, true) },
                      { dst := some 76, op := Op.pick (Operand.tmp 71) (Operand.tmp 75) (Operand.const (Value.bool false)), guard := none },
                      { dst := some 77, op := Op.move (Operand.tmp 76), guard := none }, { dst := some 78, op := Op.load 31 (Operand.tmp 6), guard := some (some 77, true) },
                      { dst := some 79, op := Op.call { callee := Callee.value (Operand.func 11), args := { toList := [Operand.tmp 78] }, argTypes := { toList := [31] } },
                        guard := some (some 77, true) },
                      { dst := some 80, op := Op.binOp BinOp.eql 3 (Operand.tmp 79) (Operand.const (Value.int IntKind.i64 (Int.ofNat 0))) 3, guard := some (some 77, true) },
                      { dst := some 81, op := Op.pick (Operand.tmp 77) (Operand.tmp 80) (Operand.const (Value.bool false)), guard := none },
                      { dst := some 4, op := Op.assign (Operand.tmp 81), guard := none }]).seq
                IC.ret)))))))
theorem ic3_eq : Tryd.f3.body.map comp = some ic3 := by kernel_rfl
theorem ic3_ok : Tryd.f3.body.map (okC Tryd.f3.ntmps) = some true := by kernel_rfl
theorem ic3_nm : (Tryd.f3.name != "runtime.NumGoroutine") = true := by kernel_rfl
@[simp] theorem ic3_n : Tryd.f3.ntmps = 82 := by kernel_rfl
@[simp] theorem ic3_r : Tryd.f3.results.toList = [ResultVar.tmp 4] := by kernel_rfl

def ic4 : IC :=
  (IC.ops [{ dst := some 0, op := Op.assign (Operand.const (Value.bool false)), guard := none }]).seq
  ((IC.ops
        [{ dst := some 2, op := Op.build 25 { toList := [] }, guard := none },
          { dst := some 3, op := Op.call { callee := Callee.value (Operand.func 5), args := { toList := [Operand.tmp 2] }, argTypes := { toList := [25] } }, guard := none },
          { dst := some 1, op := Op.alloc 31, guard := none }, { dst := none, op := Op.store 31 (Operand.tmp 1) (Operand.tmp 3), guard := none }]).seq
    ((IC.ops
          [{ dst := some 4, op := Op.load 31 (Operand.tmp 1), guard := none },
            { dst := some 5, op := Op.call { callee := Callee.value (Operand.func 6), args := { toList := [Operand.tmp 4] }, argTypes := { toList := [31] } }, guard := none },
            { dst := some 6, op := Op.binOp BinOp.eql 34 (Operand.tmp 5) (Operand.const Value.nilIface) 34, guard := none }, { dst := some 7, op := Op.move (Operand.tmp 6), guard := none },
            { dst := some 8, op := Op.build 31 { toList := [] }, guard := some (some 7, true) },
            { dst := some 9, op := Op.call { callee := Callee.value (Operand.func 6), args := { toList := [Operand.tmp 8] }, argTypes := { toList := [31] } }, guard := some (some 7, true) },
            { dst := some 10, op := Op.binOp BinOp.neq 34 (Operand.tmp 9) (Operand.const Value.nilIface) 34, guard := some (some 7, true) },
            { dst := some 11, op := Op.pick (Operand.tmp 7) (Operand.tmp 10) (Operand.const (Value.bool false)), guard := none }, { dst := some 12, op := Op.move (Operand.tmp 11), guard := none },
            { dst := some 13, op := Op.load 31 (Operand.tmp 1), guard := some (some 12, true) },
            { dst := some 14, op := Op.call { callee := Callee.value (Operand.func 7), args := { toList := [Operand.tmp 13] }, argTypes := { toList := [31] } }, guard := some (some 12, true) },
            { dst := some 15, op := Op.binOp BinOp.eql 3 (Operand.tmp 14) (Operand.const (Value.int IntKind.i64 (Int.ofNat 3))) 3, guard := some (some 12, true) },
            { dst := some 16, op := Op.pick (Operand.tmp 12) (Operand.tmp 15) (Operand.const (Value.bool false)), guard := none }, { dst := some 17, op := Op.move (Operand.tmp 16), guard := none },
            { dst := some 18, op := Op.load 31 (Operand.tmp 1), guard := some (some 17, true) },
            { dst := some 19, op := Op.call { callee := Callee.value (Operand.func 12), args := { toList := [Operand.tmp 18] }, argTypes := { toList := [31] } }, guard := some (some 17, true) },
            { dst := some 20, op := Op.binOp BinOp.eql 3 (Operand.tmp 19) (Operand.const (Value.int IntKind.i64 (Int.ofNat 3))) 3, guard := some (some 17, true) },
            { dst := some 21, op := Op.pick (Operand.tmp 17) (Operand.tmp 20) (Operand.const (Value.bool false)), guard := none }, { dst := some 22, op := Op.move (Operand.tmp 21), guard := none },
            { dst := some 23, op := Op.load 31 (Operand.tmp 1), guard := some (some 22, true) },
            { dst := some 24, op := Op.call { callee := Callee.value (Operand.func 13), args := { toList := [Operand.tmp 23] }, argTypes := { toList := [31] } }, guard := some (some 22, true) },
            { dst := some 25, op := Op.binOp BinOp.eql 3 (Operand.tmp 24) (Operand.const (Value.int IntKind.i64 (Int.ofNat 2))) 3, guard := some (some 22, true) },
            { dst := some 26, op := Op.pick (Operand.tmp 22) (Operand.tmp 25) (Operand.const (Value.bool false)), guard := none },
            { dst := some 0, op := Op.assign (Operand.tmp 26), guard := none }]).seq
      IC.ret))
theorem ic4_eq : Tryd.f4.body.map comp = some ic4 := by kernel_rfl
theorem ic4_ok : Tryd.f4.body.map (okC Tryd.f4.ntmps) = some true := by kernel_rfl
theorem ic4_nm : (Tryd.f4.name != "runtime.NumGoroutine") = true := by kernel_rfl
@[simp] theorem ic4_n : Tryd.f4.ntmps = 27 := by kernel_rfl
@[simp] theorem ic4_r : Tryd.f4.results.toList = [ResultVar.tmp 0] := by kernel_rfl

def ic5 : IC :=
  (IC.ops [{ dst := some 1, op := Op.box 25 (Operand.tmp 0), guard := none }, { dst := some 2, op := Op.alloc 31, guard := none }]).seq
  ((IC.opsD
        [{ dst := some 8, op := Op.fieldAddr 25 (Operand.tmp 1) 1, guard := none }, { dst := some 9, op := Op.load 5 (Operand.tmp 8), guard := none, bef := [0] },
          { dst := some 10, op := Op.binOp BinOp.rem 5 (Operand.tmp 9) (Operand.const (Value.int IntKind.u8 (Int.ofNat 9))) 5, guard := none, bef := [1, 0] },
          { dst := some 11, op := Op.convert 5 3 (Operand.tmp 10), guard := none, bef := [2, 1, 0] },
          { dst := some 12, op := Op.binOp BinOp.add 3 (Operand.const (Value.int IntKind.i64 (Int.ofNat 2))) (Operand.tmp 11) 3, guard := none, bef := [3, 2, 1, 0] },
          { dst := some 13, op := Op.fieldAddr 25 (Operand.tmp 1) 2, guard := none }, { dst := some 14, op := Op.load 5 (Operand.tmp 13), guard := none, bef := [5] },
          { dst := some 15, op := Op.binOp BinOp.rem 5 (Operand.tmp 14) (Operand.const (Value.int IntKind.u8 (Int.ofNat 30))) 5, guard := none, bef := [6, 5] },
          { dst := some 16, op := Op.convert 5 3 (Operand.tmp 15), guard := none, bef := [7, 6, 5] }, { dst := some 3, op := Op.assign (Operand.tmp 12), guard := none, bef := [4, 3, 2, 1, 0] },
          { dst := some 4, op := Op.assign (Operand.tmp 16), guard := none, bef := [8, 7, 6, 5, 9, 4, 3, 2, 1, 0] }]).seq
    ((IC.opsD
          [{ dst := some 17, op := Op.move (Operand.tmp 3), guard := none }, { dst := some 18, op := Op.move (Operand.tmp 3), guard := none },
            { dst := some 19, op := Op.fieldAddr 25 (Operand.tmp 1) 1, guard := none }, { dst := some 20, op := Op.load 5 (Operand.tmp 19), guard := none, bef := [2] },
            { dst := some 21, op := Op.binOp BinOp.quo 5 (Operand.tmp 20) (Operand.const (Value.int IntKind.u8 (Int.ofNat 9))) 5, guard := none, bef := [3, 2] },
            { dst := some 22, op := Op.binOp BinOp.rem 5 (Operand.tmp 21) (Operand.const (Value.int IntKind.u8 (Int.ofNat 4))) 5, guard := none, bef := [4, 3, 2] },
            { dst := some 23, op := Op.convert 5 3 (Operand.tmp 22), guard := none, bef := [5, 4, 3, 2] },
            { dst := some 24, op := Op.binOp BinOp.add 3 (Operand.tmp 18) (Operand.tmp 23) 3, guard := none, bef := [1, 6, 5, 4, 3, 2] },
            { dst := some 25, op := Op.build 29 { toList := [(0, Operand.tmp 17), (1, Operand.tmp 24)] }, guard := none, bef := [0, 7, 1, 6, 5, 4, 3, 2] },
            { dst := some 26, op := Op.fieldAddr 25 (Operand.tmp 1) 3, guard := none }, { dst := some 27, op := Op.load 5 (Operand.tmp 26), guard := none, bef := [9] },
            { dst := some 28, op := Op.binOp BinOp.rem 5 (Operand.tmp 27) (Operand.const (Value.int IntKind.u8 (Int.ofNat 12))) 5, guard := none, bef := [10, 9] },
            { dst := some 29, op := Op.convert 5 3 (Operand.tmp 28), guard := none, bef := [11, 10, 9] },
            { dst := some 30, op := Op.binOp BinOp.add 3 (Operand.const (Value.int IntKind.i64 (Int.ofNat 1))) (Operand.tmp 29) 3, guard := none, bef := [12, 11, 10, 9] },
            { dst := some 31, op := Op.fieldAddr 25 (Operand.tmp 1) 4, guard := none }, { dst := some 32, op := Op.load 5 (Operand.tmp 31), guard := none, bef := [14] },
            { dst := some 33, op := Op.convert 5 3 (Operand.tmp 32), guard := none, bef := [15, 14] }, { dst := some 34, op := Op.move (Operand.tmp 3), guard := none },
            { dst := some 35, op := Op.binOp BinOp.rem 3 (Operand.tmp 33) (Operand.tmp 34) 3, guard := none, bef := [16, 15, 14, 17] },
            { dst := some 36, op := Op.fieldAddr 25 (Operand.tmp 1) 9, guard := none }, { dst := some 37, op := Op.load 5 (Operand.tmp 36), guard := none, bef := [19] },
            { dst := some 38, op := Op.binOp BinOp.rem 5 (Operand.tmp 37) (Operand.const (Value.int IntKind.u8 (Int.ofNat 12))) 5, guard := none, bef := [20, 19] },
            { dst := some 39, op := Op.convert 5 3 (Operand.tmp 38), guard := none, bef := [21, 20, 19] },
            { dst := some 40, op := Op.build 31 { toList := [(8, Operand.tmp 25), (10, Operand.tmp 30), (9, Operand.tmp 35), (13, Operand.tmp 39)] }, guard := none,
              bef := [8, 0, 7, 1, 6, 5, 4, 3, 2, 13, 12, 11, 10, 9, 18, 16, 15, 14, 17, 22, 21, 20, 19] },
            { dst := some 5, op := Op.alloc 31, guard := none },
            { dst := none, op := Op.store 31 (Operand.tmp 5) (Operand.tmp 40), guard := none, bef := [24, 23, 8, 0, 7, 1, 6, 5, 4, 3, 2, 13, 12, 11, 10, 9, 18, 16, 15, 14, 17, 22, 21, 20, 19] }]).seq
      ((IC.ops
            [{ dst := some 41, op := Op.fieldAddr 31 (Operand.tmp 5) 8, guard := none }, { dst := some 42, op := Op.fieldAddr 29 (Operand.tmp 41) 1, guard := none },
              { dst := some 43, op := Op.load 3 (Operand.tmp 42), guard := none }, { dst := some 44, op := Op.move (Operand.tmp 4), guard := none },
              { dst := some 45, op := Op.binOp BinOp.add 3 (Operand.tmp 43) (Operand.tmp 44) 3, guard := none }, { dst := some 46, op := Op.fieldAddr 31 (Operand.tmp 5) 8, guard := none },
              { dst := some 47, op := Op.fieldAddr 29 (Operand.tmp 46) 1, guard := none }, { dst := some 48, op := Op.load 3 (Operand.tmp 47), guard := none },
              { dst := some 49, op := Op.move (Operand.tmp 4), guard := none }, { dst := some 50, op := Op.binOp BinOp.add 3 (Operand.tmp 48) (Operand.tmp 49) 3, guard := none },
              { dst := some 51, op := Op.fieldAddr 25 (Operand.tmp 1) 2, guard := none }, { dst := some 52, op := Op.load 5 (Operand.tmp 51), guard := none },
              { dst := some 53, op := Op.binOp BinOp.quo 5 (Operand.tmp 52) (Operand.const (Value.int IntKind.u8 (Int.ofNat 30))) 5, guard := none },
              { dst := some 54, op := Op.binOp BinOp.rem 5 (Operand.tmp 53) (Operand.const (Value.int IntKind.u8 (Int.ofNat 4))) 5, guard := none },
              { dst := some 55, op := Op.convert 5 3 (Operand.tmp 54), guard := none }, { dst := some 56, op := Op.binOp BinOp.add 3 (Operand.tmp 50) (Operand.tmp 55) 3, guard := none },
              { dst := some 57, op := Op.build 29 { toList := [(0, Operand.tmp 45), (1, Operand.tmp 56)] }, guard := none }, { dst := some 58, op := Op.fieldAddr 31 (Operand.tmp 5) 7, guard := none },
              { dst := none, op := Op.store 29 (Operand.tmp 58) (Operand.tmp 57), guard := none }]).seq
        ((IC.opsD
              [{ dst := some 59, op := Op.fieldAddr 31 (Operand.tmp 5) 8, guard := none }, { dst := some 60, op := Op.fieldAddr 29 (Operand.tmp 59) 1, guard := none, bef := [0] },
                { dst := some 61, op := Op.load 3 (Operand.tmp 60), guard := none, bef := [1, 0] }, { dst := some 62, op := Op.fieldAddr 31 (Operand.tmp 5) 8, guard := none },
                { dst := some 63, op := Op.fieldAddr 29 (Operand.tmp 62) 1, guard := none, bef := [3] }, { dst := some 64, op := Op.load 3 (Operand.tmp 63), guard := none, bef := [4, 3] },
                { dst := some 65, op := Op.fieldAddr 31 (Operand.tmp 5) 10, guard := none }, { dst := some 66, op := Op.load 3 (Operand.tmp 65), guard := none, bef := [6] },
                { dst := some 67, op := Op.call { callee := Callee.value (Operand.func 14), args := { toList := [Operand.tmp 64, Operand.tmp 66] }, argTypes := { toList := [3, 3] } }, guard := none,
                  bef := [5, 4, 3, 7, 6] },
                { dst := some 68, op := Op.binOp BinOp.add 3 (Operand.tmp 61) (Operand.tmp 67) 3, guard := none, bef := [2, 1, 0, 8, 5, 4, 3, 7, 6] },
                { dst := some 6, op := Op.assign (Operand.tmp 68), guard := none, bef := [9, 2, 1, 0, 8, 5, 4, 3, 7, 6] }]).seq
          ((IC.ops
                [{ dst := some 69, op := Op.move (Operand.tmp 6), guard := none }, { dst := some 70, op := Op.fieldAddr 25 (Operand.tmp 1) 5, guard := none },
                  { dst := some 71, op := Op.indexAddr 22 (Operand.tmp 70) (Operand.const (Value.int IntKind.i64 (Int.ofNat 0))), guard := none },
                  { dst := some 72, op := Op.load 5 (Operand.tmp 71), guard := none },
                  { dst := some 73, op := Op.binOp BinOp.rem 5 (Operand.tmp 72) (Operand.const (Value.int IntKind.u8 (Int.ofNat 8))) 5, guard := none },
                  { dst := some 74, op := Op.convert 5 3 (Operand.tmp 73), guard := none }, { dst := some 75, op := Op.binOp BinOp.add 3 (Operand.tmp 69) (Operand.tmp 74) 3, guard := none },
                  { dst := some 76, op := Op.fieldAddr 31 (Operand.tmp 5) 4, guard := none }, { dst := none, op := Op.store 3 (Operand.tmp 76) (Operand.tmp 75), guard := none }]).seq
            ((IC.ops
                  [{ dst := some 77, op := Op.fieldAddr 31 (Operand.tmp 5) 4, guard := none }, { dst := some 78, op := Op.load 3 (Operand.tmp 77), guard := none },
                    { dst := some 79, op := Op.fieldAddr 25 (Operand.tmp 1) 5, guard := none },
                    { dst := some 80, op := Op.indexAddr 22 (Operand.tmp 79) (Operand.const (Value.int IntKind.i64 (Int.ofNat 1))), guard := none },
                    { dst := some 81, op := Op.load 5 (Operand.tmp 80), guard := none },
                    { dst := some 82, op := Op.binOp BinOp.rem 5 (Operand.tmp 81) (Operand.const (Value.int IntKind.u8 (Int.ofNat 8))) 5, guard := none },
                    { dst := some 83, op := Op.convert 5 3 (Operand.tmp 82), guard := none }, { dst := some 84, op := Op.binOp BinOp.add 3 (Operand.tmp 78) (Operand.tmp 83) 3, guard := none },
                    { dst := some 85, op := Op.fieldAddr 31 (Operand.tmp 5) 5, guard := none }, { dst := none, op := Op.store 3 (Operand.tmp 85) (Operand.tmp 84), guard := none }]).seq
              ((IC.opsD
                    [{ dst := some 86, op := Op.fieldAddr 31 (Operand.tmp 5) 5, guard := none }, { dst := some 87, op := Op.load 3 (Operand.tmp 86), guard := none, bef := [0] },
                      { dst := some 88, op := Op.fieldAddr 31 (Operand.tmp 5) 9, guard := none }, { dst := some 89, op := Op.load 3 (Operand.tmp 88), guard := none, bef := [2] },
                      { dst := some 90, op := Op.fieldAddr 31 (Operand.tmp 5) 13, guard := none }, { dst := some 91, op := Op.load 3 (Operand.tmp 90), guard := none, bef := [4] },
                      { dst := some 92, op := Op.binOp BinOp.add 3 (Operand.tmp 91) (Operand.const (Value.int IntKind.i64 (Int.ofNat 4))) 3, guard := none, bef := [5, 4] },
                      { dst := some 93, op := Op.fieldAddr 31 (Operand.tmp 5) 8, guard := none }, { dst := some 94, op := Op.fieldAddr 29 (Operand.tmp 93) 1, guard := none, bef := [7] },
                      { dst := some 95, op := Op.load 3 (Operand.tmp 94), guard := none, bef := [8, 7] }, { dst := some 96, op := Op.fieldAddr 31 (Operand.tmp 5) 10, guard := none },
                      { dst := some 97, op := Op.load 3 (Operand.tmp 96), guard := none, bef := [10] },
                      { dst := some 98, op := Op.call { callee := Callee.value (Operand.func 15), args := { toList := [Operand.tmp 95, Operand.tmp 97] }, argTypes := { toList := [3, 3] } },
                        guard := none, bef := [9, 8, 7, 11, 10] },
                      { dst := some 99, op := Op.binOp BinOp.add 3 (Operand.tmp 92) (Operand.tmp 98) 3, guard := none, bef := [6, 5, 4, 12, 9, 8, 7, 11, 10] },
                      { dst := some 100, op := Op.binOp BinOp.mul 3 (Operand.tmp 89) (Operand.tmp 99) 3, guard := none, bef := [3, 2, 13, 6, 5, 4, 12, 9, 8, 7, 11, 10] },
                      { dst := some 101, op := Op.binOp BinOp.add 3 (Operand.tmp 87) (Operand.tmp 100) 3, guard := none, bef := [1, 0, 14, 3, 2, 13, 6, 5, 4, 12, 9, 8, 7, 11, 10] },
                      { dst := some 102, op := Op.fieldAddr 31 (Operand.tmp 5) 7, guard := none }, { dst := some 103, op := Op.fieldAddr 29 (Operand.tmp 102) 1, guard := none, bef := [16] },
                      { dst := some 104, op := Op.load 3 (Operand.tmp 103), guard := none, bef := [17, 16] },
                      { dst := some 105, op := Op.binOp BinOp.add 3 (Operand.tmp 104) (Operand.const (Value.int IntKind.i64 (Int.ofNat 1))) 3, guard := none, bef := [18, 17, 16] },
                      { dst := some 106, op := Op.binOp BinOp.quo 3 (Operand.tmp 105) (Operand.const (Value.int IntKind.i64 (Int.ofNat 2))) 3, guard := none, bef := [19, 18, 17, 16] },
                      { dst := some 107, op := Op.call { callee := Callee.builtin Builtin.max, args := { toList := [Operand.tmp 101, Operand.tmp 106] }, argTypes := { toList := [3, 3] } },
                        guard := none, bef := [15, 1, 0, 14, 3, 2, 13, 6, 5, 4, 12, 9, 8, 7, 11, 10, 20, 19, 18, 17, 16] },
                      { dst := some 108, op := Op.fieldAddr 25 (Operand.tmp 1) 5, guard := none },
                      { dst := some 109, op := Op.indexAddr 22 (Operand.tmp 108) (Operand.const (Value.int IntKind.i64 (Int.ofNat 2))), guard := none, bef := [22] },
                      { dst := some 110, op := Op.load 5 (Operand.tmp 109), guard := none, bef := [23, 22] },
                      { dst := some 111, op := Op.binOp BinOp.rem 5 (Operand.tmp 110) (Operand.const (Value.int IntKind.u8 (Int.ofNat 20))) 5, guard := none, bef := [24, 23, 22] },
                      { dst := some 112, op := Op.convert 5 3 (Operand.tmp 111), guard := none, bef := [25, 24, 23, 22] },
                      { dst := some 113, op := Op.binOp BinOp.add 3 (Operand.tmp 107) (Operand.tmp 112) 3, guard := none,
                        bef := [21, 15, 1, 0, 14, 3, 2, 13, 6, 5, 4, 12, 9, 8, 7, 11, 10, 20, 19, 18, 17, 16, 26, 25, 24, 23, 22] },
                      { dst := some 114, op := Op.fieldAddr 31 (Operand.tmp 5) 3, guard := none,
                        bef := [0, 1, 2, 3, 4, 5, 6, 7, 8, 9, 10, 11, 12, 13, 14, 15, 16, 17, 18, 19, 20, 21, 22, 23, 24, 25, 26, 27] },
                      { dst := none, op := Op.store 3 (Operand.tmp 114) (Operand.tmp 113), guard := none,
                        bef := [28, 0, 1, 2, 3, 4, 5, 6, 7, 8, 9, 10, 11, 12, 13, 14, 15, 16, 17, 18, 19, 20, 21, 22, 23, 24, 25, 26, 27] }]).seq
                ((IC.ops
                      [{ dst := some 115, op := Op.fieldAddr 31 (Operand.tmp 5) 3, guard := none }, { dst := some 116, op := Op.load 3 (Operand.tmp 115), guard := none },
                        { dst := some 117, op := Op.move (Operand.tmp 6), guard := none }, { dst := some 118, op := Op.binOp BinOp.add 3 (Operand.tmp 116) (Operand.tmp 117) 3, guard := none },
                        { dst := some 119, op := Op.fieldAddr 25 (Operand.tmp 1) 5, guard := none },
                        { dst := some 120, op := Op.indexAddr 22 (Operand.tmp 119) (Operand.const (Value.int IntKind.i64 (Int.ofNat 3))), guard := none },
                        { dst := some 121, op := Op.load 5 (Operand.tmp 120), guard := none },
                        { dst := some 122, op := Op.binOp BinOp.rem 5 (Operand.tmp 121) (Operand.const (Value.int IntKind.u8 (Int.ofNat 20))) 5, guard := none },
                        { dst := some 123, op := Op.convert 5 3 (Operand.tmp 122), guard := none },
                        { dst := some 124, op := Op.binOp BinOp.add 3 (Operand.tmp 118) (Operand.tmp 123) 3, guard := none },
                        { dst := some 125, op := Op.fieldAddr 31 (Operand.tmp 5) 2, guard := none }, { dst := none, op := Op.store 3 (Operand.tmp 125) (Operand.tmp 124), guard := none }]).seq
                  ((IC.opsD
                        [{ dst := some 126, op := Op.fieldAddr 31 (Operand.tmp 5) 2, guard := none }, { dst := some 127, op := Op.load 3 (Operand.tmp 126), guard := none, bef := [0] },
                          { dst := some 128, op := Op.fieldAddr 31 (Operand.tmp 5) 7, guard := none }, { dst := some 129, op := Op.fieldAddr 29 (Operand.tmp 128) 1, guard := none, bef := [2] },
                          { dst := some 130, op := Op.load 3 (Operand.tmp 129), guard := none, bef := [3, 2] },
                          { dst := some 131, op := Op.binOp BinOp.add 3 (Operand.tmp 127) (Operand.tmp 130) 3, guard := none, bef := [1, 0, 4, 3, 2] },
                          { dst := some 132, op := Op.fieldAddr 31 (Operand.tmp 5) 7, guard := none }, { dst := some 133, op := Op.fieldAddr 29 (Operand.tmp 132) 1, guard := none, bef := [6] },
                          { dst := some 134, op := Op.load 3 (Operand.tmp 133), guard := none, bef := [7, 6] }, { dst := some 135, op := Op.fieldAddr 31 (Operand.tmp 5) 10, guard := none },
                          { dst := some 136, op := Op.load 3 (Operand.tmp 135), guard := none, bef := [9] },
                          { dst := some 137, op := Op.call { callee := Callee.value (Operand.func 14), args := { toList := [Operand.tmp 134, Operand.tmp 136] }, argTypes := { toList := [3, 3] } },
                            guard := none, bef := [8, 7, 6, 10, 9] },
                          { dst := some 138, op := Op.binOp BinOp.add 3 (Operand.tmp 131) (Operand.tmp 137) 3, guard := none, bef := [5, 1, 0, 4, 3, 2, 11, 8, 7, 6, 10, 9] },
                          { dst := some 139, op := Op.fieldAddr 25 (Operand.tmp 1) 5, guard := none },
                          { dst := some 140, op := Op.indexAddr 22 (Operand.tmp 139) (Operand.const (Value.int IntKind.i64 (Int.ofNat 4))), guard := none, bef := [13] },
                          { dst := some 141, op := Op.load 5 (Operand.tmp 140), guard := none, bef := [14, 13] },
                          { dst := some 142, op := Op.binOp BinOp.rem 5 (Operand.tmp 141) (Operand.const (Value.int IntKind.u8 (Int.ofNat 20))) 5, guard := none, bef := [15, 14, 13] },
                          { dst := some 143, op := Op.convert 5 3 (Operand.tmp 142), guard := none, bef := [16, 15, 14, 13] },
                          { dst := some 144, op := Op.binOp BinOp.add 3 (Operand.tmp 138) (Operand.tmp 143) 3, guard := none, bef := [12, 5, 1, 0, 4, 3, 2, 11, 8, 7, 6, 10, 9, 17, 16, 15, 14, 13] },
                          { dst := some 145, op := Op.fieldAddr 31 (Operand.tmp 5) 6, guard := none, bef := [0, 1, 2, 3, 4, 5, 6, 7, 8, 9, 10, 11, 12, 13, 14, 15, 16, 17, 18] },
                          { dst := none, op := Op.store 3 (Operand.tmp 145) (Operand.tmp 144), guard := none, bef := [19, 0, 1, 2, 3, 4, 5, 6, 7, 8, 9, 10, 11, 12, 13, 14, 15, 16, 17, 18] }]).seq
                    (((IC.ops [{ dst := some 7, op := Op.assign (Operand.const (Value.int IntKind.i64 (Int.ofNat 0))), guard := none }]).seq
                          (IC.block 0
                            (((IC.ops
                                        [{ dst := some 146, op := Op.move (Operand.tmp 7), guard := none }, { dst := some 147, op := Op.fieldAddr 25 (Operand.tmp 1) 0, guard := none },
                                          { dst := some 148, op := Op.load 5 (Operand.tmp 147), guard := none },
                                          { dst := some 149, op := Op.binOp BinOp.rem 5 (Operand.tmp 148) (Operand.const (Value.int IntKind.u8 (Int.ofNat 5))) 5, guard := none },
                                          { dst := some 150, op := Op.convert 5 3 (Operand.tmp 149), guard := none },
                                          { dst := some 151, op := Op.binOp BinOp.add 3 (Operand.const (Value.int IntKind.i64 (Int.ofNat 2))) (Operand.tmp 150) 3, guard := none },
                                          { dst := some 152, op := Op.binOp BinOp.lss 3 (Operand.tmp 146) (Operand.tmp 151) 3, guard := none }]).seq
                                    (IC.cond (Operand.tmp 152) IC.skip (IC.exit 0))).seq
                                ((IC.block 1
                                      ((IC.ops
                                            [{ dst := some 155, op := Op.fieldAddr 31 (Operand.tmp 5) 0, guard := none }, { dst := some 156, op := Op.load 27 (Operand.tmp 155), guard := none },
                                              { dst := some 157, op := Op.move (Operand.tmp 7), guard := none }, { dst := some 158, op := Op.fieldAddr 31 (Operand.tmp 5) 6, guard := none },
                                              { dst := some 159, op := Op.load 3 (Operand.tmp 158), guard := none },
                                              { dst := some 160, op := Op.binOp BinOp.mul 3 (Operand.const (Value.int IntKind.i64 (Int.ofNat 2))) (Operand.tmp 159) 3, guard := none },
                                              { dst := some 161, op := Op.fieldAddr 31 (Operand.tmp 5) 7, guard := none },
                                              { dst := some 162, op := Op.fieldAddr 29 (Operand.tmp 161) 1, guard := none }, { dst := some 163, op := Op.load 3 (Operand.tmp 162), guard := none },
                                              { dst := some 164, op := Op.binOp BinOp.add 3 (Operand.tmp 160) (Operand.tmp 163) 3, guard := none },
                                              { dst := some 165, op := Op.binOp BinOp.add 3 (Operand.tmp 164) (Operand.const (Value.int IntKind.i64 (Int.ofNat 1))) 3, guard := none },
                                              { dst := some 166, op := Op.fieldAddr 25 (Operand.tmp 1) 6, guard := none }, { dst := some 167, op := Op.load 23 (Operand.tmp 166), guard := none },
                                              { dst := some 168, op := Op.binOp BinOp.rem 23 (Operand.tmp 167) (Operand.const (Value.int IntKind.u16 (Int.ofNat 200))) 23, guard := none },
                                              { dst := some 169, op := Op.convert 23 3 (Operand.tmp 168), guard := none },
                                              { dst := some 170, op := Op.binOp BinOp.add 3 (Operand.tmp 165) (Operand.tmp 169) 3, guard := none },
                                              { dst := some 171, op := Op.binOp BinOp.mul 3 (Operand.tmp 157) (Operand.tmp 170) 3, guard := none },
                                              { dst := some 172, op := Op.buildSlice 27 1 { toList := [(0, Operand.tmp 171)] }, guard := none },
                                              { dst := some 173,
                                                op := Op.call { callee := Callee.builtin Builtin.append, args := { toList := [Operand.tmp 156, Operand.tmp 172] }, argTypes := { toList := [27, 27] } },
                                                guard := none },
                                              { dst := some 174, op := Op.fieldAddr 31 (Operand.tmp 5) 0, guard := none },
                                              { dst := none, op := Op.store 27 (Operand.tmp 174) (Operand.tmp 173), guard := none }]).seq
                                        (IC.opsD
                                          [{ dst := some 175, op := Op.fieldAddr 31 (Operand.tmp 5) 1, guard := none },
                                            { dst := some 176, op := Op.load 27 (Operand.tmp 175), guard := none, bef := [0] },
                                            { dst := some 177, op := Op.fieldAddr 25 (Operand.tmp 1) 15, guard := none },
                                            { dst := some 178, op := Op.load 23 (Operand.tmp 177), guard := none, bef := [2] }, { dst := some 179, op := Op.move (Operand.tmp 7), guard := none },
                                            { dst := some 180, op := Op.binOp BinOp.mul 3 (Operand.const (Value.int IntKind.i64 (Int.ofNat 2))) (Operand.tmp 179) 3, guard := none, bef := [4] },
                                            { dst := some 181, op := Op.binOp BinOp.shr 23 (Operand.tmp 178) (Operand.tmp 180) 3, guard := none, bef := [3, 2, 5, 4] },
                                            { dst := some 182, op := Op.convert 23 3 (Operand.tmp 181), guard := none, bef := [6, 3, 2, 5, 4] },
                                            { dst := some 183, op := Op.binOp BinOp.rem 3 (Operand.tmp 182) (Operand.const (Value.int IntKind.i64 (Int.ofNat 3))) 3, guard := none,
                                              bef := [7, 6, 3, 2, 5, 4] },
                                            { dst := some 184, op := Op.binOp BinOp.add 3 (Operand.const (Value.int IntKind.i64 (Int.ofNat 1))) (Operand.tmp 183) 3, guard := none,
                                              bef := [8, 7, 6, 3, 2, 5, 4] },
                                            { dst := some 185, op := Op.buildSlice 27 1 { toList := [(0, Operand.tmp 184)] }, guard := none, bef := [9, 8, 7, 6, 3, 2, 5, 4] },
                                            { dst := some 186,
                                              op := Op.call { callee := Callee.builtin Builtin.append, args := { toList := [Operand.tmp 176, Operand.tmp 185] }, argTypes := { toList := [27, 27] } },
                                              guard := none, bef := [1, 0, 10, 9, 8, 7, 6, 3, 2, 5, 4] },
                                            { dst := some 187, op := Op.fieldAddr 31 (Operand.tmp 5) 1, guard := none, bef := [0, 1, 2, 3, 4, 5, 6, 7, 8, 9, 10, 11] },
                                            { dst := none, op := Op.store 27 (Operand.tmp 187) (Operand.tmp 186), guard := none, bef := [12, 0, 1, 2, 3, 4, 5, 6, 7, 8, 9, 10, 11] }]))).seq
                                  (IC.ops
                                    [{ dst := some 153, op := Op.move (Operand.tmp 7), guard := none },
                                      { dst := some 154, op := Op.binOp BinOp.add 3 (Operand.tmp 153) (Operand.const (Value.int IntKind.i64 (Int.ofNat 1))) 3, guard := none },
                                      { dst := some 7, op := Op.assign (Operand.tmp 154), guard := none }]))).loop)).seq
                      ((IC.ops
                            [{ dst := some 188, op := Op.fieldAddr 25 (Operand.tmp 1) 7, guard := none }, { dst := some 189, op := Op.load 5 (Operand.tmp 188), guard := none },
                              { dst := some 190, op := Op.binOp BinOp.rem 5 (Operand.tmp 189) (Operand.const (Value.int IntKind.u8 (Int.ofNat 5))) 5, guard := none },
                              { dst := some 191, op := Op.convert 5 3 (Operand.tmp 190), guard := none }, { dst := some 192, op := Op.fieldAddr 31 (Operand.tmp 5) 11, guard := none },
                              { dst := none, op := Op.store 3 (Operand.tmp 192) (Operand.tmp 191), guard := none }]).seq
                        ((IC.ops
                              [{ dst := some 193, op := Op.fieldAddr 31 (Operand.tmp 5) 11, guard := none }, { dst := some 194, op := Op.load 3 (Operand.tmp 193), guard := none },
                                { dst := some 195, op := Op.binOp BinOp.add 3 (Operand.tmp 194) (Operand.const (Value.int IntKind.i64 (Int.ofNat 1))) 3, guard := none },
                                { dst := some 196, op := Op.fieldAddr 25 (Operand.tmp 1) 8, guard := none }, { dst := some 197, op := Op.load 5 (Operand.tmp 196), guard := none },
                                { dst := some 198, op := Op.binOp BinOp.rem 5 (Operand.tmp 197) (Operand.const (Value.int IntKind.u8 (Int.ofNat 4))) 5, guard := none },
                                { dst := some 199, op := Op.convert 5 3 (Operand.tmp 198), guard := none },
                                { dst := some 200, op := Op.binOp BinOp.add 3 (Operand.tmp 195) (Operand.tmp 199) 3, guard := none },
                                { dst := some 201, op := Op.fieldAddr 31 (Operand.tmp 5) 12, guard := none }, { dst := none, op := Op.store 3 (Operand.tmp 201) (Operand.tmp 200), guard := none }]).seq
                          ((IC.opsD
                                [{ dst := some 202, op := Op.fieldAddr 25 (Operand.tmp 1) 10, guard := none }, { dst := some 203, op := Op.load 23 (Operand.tmp 202), guard := none, bef := [0] },
                                  { dst := some 204, op := Op.convert 23 3 (Operand.tmp 203), guard := none, bef := [1, 0] },
                                  { dst := some 205, op := Op.binOp BinOp.add 3 (Operand.const (Value.int IntKind.i64 (Int.ofNat 1))) (Operand.tmp 204) 3, guard := none, bef := [2, 1, 0] },
                                  { dst := some 206, op := Op.fieldAddr 25 (Operand.tmp 1) 11, guard := none }, { dst := some 207, op := Op.load 23 (Operand.tmp 206), guard := none, bef := [4] },
                                  { dst := some 208, op := Op.convert 23 3 (Operand.tmp 207), guard := none, bef := [5, 4] },
                                  { dst := some 209, op := Op.binOp BinOp.add 3 (Operand.const (Value.int IntKind.i64 (Int.ofNat 1))) (Operand.tmp 208) 3, guard := none, bef := [6, 5, 4] },
                                  { dst := some 210, op := Op.fieldAddr 25 (Operand.tmp 1) 12, guard := none }, { dst := some 211, op := Op.load 23 (Operand.tmp 210), guard := none, bef := [8] },
                                  { dst := some 212, op := Op.binOp BinOp.rem 23 (Operand.tmp 211) (Operand.const (Value.int IntKind.u16 (Int.ofNat 300))) 23, guard := none, bef := [9, 8] },
                                  { dst := some 213, op := Op.convert 23 3 (Operand.tmp 212), guard := none, bef := [10, 9, 8] },
                                  { dst := some 214, op := Op.binOp BinOp.add 3 (Operand.const (Value.int IntKind.i64 (Int.ofNat 1))) (Operand.tmp 213) 3, guard := none, bef := [11, 10, 9, 8] },
                                  { dst := some 215, op := Op.fieldAddr 31 (Operand.tmp 5) 14, guard := none, bef := [0, 1, 2, 3] },
                                  { dst := none, op := Op.store 3 (Operand.tmp 215) (Operand.tmp 205), guard := none, bef := [13, 0, 1, 2, 3] },
                                  { dst := some 216, op := Op.fieldAddr 31 (Operand.tmp 5) 16, guard := none, bef := [0, 1, 2, 3, 4, 5, 6, 7, 13, 14] },
                                  { dst := none, op := Op.store 3 (Operand.tmp 216) (Operand.tmp 209), guard := none, bef := [15, 0, 1, 2, 3, 4, 5, 6, 7, 13, 14] },
                                  { dst := some 217, op := Op.fieldAddr 31 (Operand.tmp 5) 17, guard := none, bef := [0, 1, 2, 3, 4, 5, 6, 7, 8, 9, 10, 11, 12, 13, 14, 15, 16] },
                                  { dst := none, op := Op.store 3 (Operand.tmp 217) (Operand.tmp 214), guard := none, bef := [17, 0, 1, 2, 3, 4, 5, 6, 7, 8, 9, 10, 11, 12, 13, 14, 15, 16] }]).seq
                            ((IC.opsD
                                  [{ dst := some 218, op := Op.fieldAddr 25 (Operand.tmp 1) 13, guard := none }, { dst := some 219, op := Op.load 5 (Operand.tmp 218), guard := none, bef := [0] },
                                    { dst := some 220, op := Op.binOp BinOp.rem 5 (Operand.tmp 219) (Operand.const (Value.int IntKind.u8 (Int.ofNat 9))) 5, guard := none, bef := [1, 0] },
                                    { dst := some 221, op := Op.convert 5 3 (Operand.tmp 220), guard := none, bef := [2, 1, 0] },
                                    { dst := some 222, op := Op.binOp BinOp.add 3 (Operand.const (Value.int IntKind.i64 (Int.ofNat 1))) (Operand.tmp 221) 3, guard := none, bef := [3, 2, 1, 0] },
                                    { dst := some 223, op := Op.fieldAddr 25 (Operand.tmp 1) 14, guard := none }, { dst := some 224, op := Op.load 5 (Operand.tmp 223), guard := none, bef := [5] },
                                    { dst := some 225, op := Op.binOp BinOp.rem 5 (Operand.tmp 224) (Operand.const (Value.int IntKind.u8 (Int.ofNat 4))) 5, guard := none, bef := [6, 5] },
                                    { dst := some 226, op := Op.convert 5 3 (Operand.tmp 225), guard := none, bef := [7, 6, 5] },
                                    { dst := some 227, op := Op.binOp BinOp.add 3 (Operand.const (Value.int IntKind.i64 (Int.ofNat 1))) (Operand.tmp 226) 3, guard := none, bef := [8, 7, 6, 5] },
                                    { dst := some 228, op := Op.fieldAddr 31 (Operand.tmp 5) 15, guard := none, bef := [0, 1, 2, 3, 4] },
                                    { dst := none, op := Op.store 3 (Operand.tmp 228) (Operand.tmp 222), guard := none, bef := [10, 0, 1, 2, 3, 4] },
                                    { dst := some 229, op := Op.fieldAddr 31 (Operand.tmp 5) 18, guard := none, bef := [0, 1, 2, 3, 4, 5, 6, 7, 8, 9, 10, 11] },
                                    { dst := none, op := Op.store 3 (Operand.tmp 229) (Operand.tmp 227), guard := none, bef := [12, 0, 1, 2, 3, 4, 5, 6, 7, 8, 9, 10, 11] }]).seq
                              ((IC.ops [{ dst := some 230, op := Op.load 31 (Operand.tmp 5), guard := none }, { dst := none, op := Op.store 31 (Operand.tmp 2) (Operand.tmp 230), guard := none }]).seq
                                IC.ret)))))))))))))))
theorem ic5_eq : Tryd.f5.body.map comp = some ic5 := by kernel_rfl
theorem ic5_ok : Tryd.f5.body.map (okC Tryd.f5.ntmps) = some true := by kernel_rfl
theorem ic5_nm : (Tryd.f5.name != "runtime.NumGoroutine") = true := by kernel_rfl
@[simp] theorem ic5_n : Tryd.f5.ntmps = 231 := by kernel_rfl
@[simp] theorem ic5_r : Tryd.f5.results.toList = [ResultVar.cell 2 31] := by kernel_rfl

def ic6 : IC :=
  (IC.ops [{ dst := some 1, op := Op.box 31 (Operand.tmp 0), guard := none }, { dst := some 2, op := Op.assign (Operand.const Value.nilIface), guard := none }]).seq
  (((IC.ops
            [{ dst := some 6, op := Op.load 31 (Operand.tmp 1), guard := none },
              { dst := some 7, op := Op.call { callee := Callee.value (Operand.func 16), args := { toList := [Operand.tmp 6] }, argTypes := { toList := [31] } }, guard := none },
              { dst := some 5, op := Op.move (Operand.tmp 7), guard := none }, { dst := some 8, op := Op.extract (Operand.tmp 5) 0, guard := none },
              { dst := some 9, op := Op.extract (Operand.tmp 5) 1, guard := none }, { dst := some 3, op := Op.assign (Operand.tmp 8), guard := none },
              { dst := some 4, op := Op.assign (Operand.tmp 9), guard := none }]).seq
        ((IC.ops [{ dst := some 10, op := Op.move (Operand.tmp 4), guard := none }]).seq
          (IC.cond (Operand.tmp 10)
            ((IC.ops
                  [{ dst := some 11, op := Op.move (Operand.tmp 3), guard := none },
                    { dst := some 12,
                      op :=
                        Op.call
                          { callee := Callee.value (Operand.func 18), args := { toList := [Operand.const (Value.int IntKind.i64 (Int.ofNat 1)), Operand.const (Value.int IntKind.i64 (Int.ofNat 0))] },
                            argTypes := { toList := [38, 3] } },
                      guard := none },
                    { dst := some 13, op := Op.call { callee := Callee.value (Operand.func 17), args := { toList := [Operand.tmp 11, Operand.tmp 12] }, argTypes := { toList := [9, 34] } },
                      guard := none },
                    { dst := some 2, op := Op.assign (Operand.tmp 13), guard := none }]).seq
              IC.ret)
            IC.skip))).seq
    ((IC.ops [{ dst := some 2, op := Op.assign (Operand.const Value.nilIface), guard := none }]).seq IC.ret))
theorem ic6_eq : Tryd.f6.body.map comp = some ic6 := by kernel_rfl
theorem ic6_ok : Tryd.f6.body.map (okC Tryd.f6.ntmps) = some true := by kernel_rfl
theorem ic6_nm : (Tryd.f6.name != "runtime.NumGoroutine") = true := by kernel_rfl
@[simp] theorem ic6_n : Tryd.f6.ntmps = 14 := by kernel_rfl
@[simp] theorem ic6_r : Tryd.f6.results.toList = [ResultVar.tmp 2] := by kernel_rfl

def ic7 : IC :=
  (IC.ops [{ dst := some 1, op := Op.box 31 (Operand.tmp 0), guard := none }, { dst := some 2, op := Op.assign (Operand.const (Value.int IntKind.i64 (Int.ofNat 0))), guard := none }]).seq
  ((IC.ops
        [{ dst := some 3, op := Op.load 31 (Operand.tmp 1), guard := none },
          { dst := some 4, op := Op.call { callee := Callee.value (Operand.func 19), args := { toList := [Operand.tmp 3, Operand.func 20] }, argTypes := { toList := [31, 36] } }, guard := none },
          { dst := some 2, op := Op.assign (Operand.tmp 4), guard := none }]).seq
    IC.ret)
theorem ic7_eq : Tryd.f7.body.map comp = some ic7 := by kernel_rfl
theorem ic7_ok : Tryd.f7.body.map (okC Tryd.f7.ntmps) = some true := by kernel_rfl
theorem ic7_nm : (Tryd.f7.name != "runtime.NumGoroutine") = true := by kernel_rfl
@[simp] theorem ic7_n : Tryd.f7.ntmps = 5 := by kernel_rfl
@[simp] theorem ic7_r : Tryd.f7.results.toList = [ResultVar.tmp 2] := by kernel_rfl

def ic8 : IC :=
  (IC.ops [{ dst := some 1, op := Op.box 31 (Operand.tmp 0), guard := none }, { dst := some 2, op := Op.assign (Operand.const (Value.int IntKind.i64 (Int.ofNat 0))), guard := none }]).seq
  ((IC.ops
        [{ dst := some 3, op := Op.load 31 (Operand.tmp 1), guard := none },
          { dst := some 4, op := Op.call { callee := Callee.value (Operand.func 19), args := { toList := [Operand.tmp 3, Operand.func 21] }, argTypes := { toList := [31, 36] } }, guard := none },
          { dst := some 2, op := Op.assign (Operand.tmp 4), guard := none }]).seq
    IC.ret)
theorem ic8_eq : Tryd.f8.body.map comp = some ic8 := by kernel_rfl
theorem ic8_ok : Tryd.f8.body.map (okC Tryd.f8.ntmps) = some true := by kernel_rfl
theorem ic8_nm : (Tryd.f8.name != "runtime.NumGoroutine") = true := by kernel_rfl
@[simp] theorem ic8_n : Tryd.f8.ntmps = 5 := by kernel_rfl
@[simp] theorem ic8_r : Tryd.f8.results.toList = [ResultVar.tmp 2] := by kernel_rfl

def ic9 : IC :=
  (IC.ops [{ dst := some 4, op := Op.assign (Operand.const (Value.bool false)), guard := none }]).seq
  ((IC.ops
        [{ dst := some 5, op := Op.move (Operand.tmp 0), guard := none }, { dst := some 6, op := Op.move (Operand.tmp 1), guard := none },
          { dst := some 7, op := Op.build 50 { toList := [(0, Operand.tmp 6)] }, guard := none }, { dst := some 8, op := Op.build 52 { toList := [(0, Operand.tmp 7)] }, guard := none },
          { dst := some 9, op := Op.makeInterface 52 (Operand.tmp 8), guard := none },
          { dst := some 10, op := Op.call { callee := Callee.value (Operand.func 22), args := { toList := [Operand.tmp 5, Operand.tmp 9] }, argTypes := { toList := [34, 34] } }, guard := none },
          { dst := some 4, op := Op.assign (Operand.tmp 10), guard := none }]).seq
    IC.ret)
theorem ic9_eq : Tryd.f9.body.map comp = some ic9 := by kernel_rfl
theorem ic9_ok : Tryd.f9.body.map (okC Tryd.f9.ntmps) = some true := by kernel_rfl
theorem ic9_nm : (Tryd.f9.name != "runtime.NumGoroutine") = true := by kernel_rfl
@[simp] theorem ic9_n : Tryd.f9.ntmps = 11 := by kernel_rfl
@[simp] theorem ic9_r : Tryd.f9.results.toList = [ResultVar.tmp 4] := by kernel_rfl

def ic10 : IC :=
  (IC.ops [{ dst := some 2, op := Op.assign (Operand.const (Value.slice none 0 0)), guard := none }]).seq
  ((IC.ops [{ dst := some 3, op := Op.assign (Operand.const (Value.slice none 0 0)), guard := none }]).seq
    ((IC.ops [{ dst := some 4, op := Op.alloc 54, guard := none }]).seq
      ((IC.block 0
            (((IC.ops
                        [{ dst := some 5, op := Op.move (Operand.tmp 0), guard := none }, { dst := some 6, op := Op.makeInterface 56 (Operand.tmp 4), guard := none },
                          { dst := some 7, op := Op.call { callee := Callee.value (Operand.func 23), args := { toList := [Operand.tmp 5, Operand.tmp 6] }, argTypes := { toList := [34, 20] } },
                            guard := none }]).seq
                    (IC.cond (Operand.tmp 7) IC.skip (IC.exit 0))).seq
                (IC.block 1
                  ((IC.ops
                        [{ dst := some 8, op := Op.move (Operand.tmp 3), guard := none }, { dst := some 9, op := Op.fieldAddr 54 (Operand.tmp 4) 0, guard := none },
                          { dst := some 10, op := Op.load 9 (Operand.tmp 9), guard := none }, { dst := some 11, op := Op.buildSlice 39 1 { toList := [(0, Operand.tmp 10)] }, guard := none },
                          { dst := some 12, op := Op.call { callee := Callee.builtin Builtin.append, args := { toList := [Operand.tmp 8, Operand.tmp 11] }, argTypes := { toList := [39, 39] } },
                            guard := none },
                          { dst := some 3, op := Op.assign (Operand.tmp 12), guard := none }]).seq
                    (IC.ops
                      [{ dst := some 13, op := Op.fieldAddr 54 (Operand.tmp 4) 1, guard := none }, { dst := some 14, op := Op.load 34 (Operand.tmp 13), guard := none },
                        { dst := some 0, op := Op.assign (Operand.tmp 14), guard := none }])))).loop).seq
        ((IC.ops [{ dst := some 15, op := Op.move (Operand.tmp 3), guard := none }, { dst := some 2, op := Op.assign (Operand.tmp 15), guard := none }]).seq IC.ret))))
theorem ic10_eq : Tryd.f10.body.map comp = some ic10 := by kernel_rfl
theorem ic10_ok : Tryd.f10.body.map (okC Tryd.f10.ntmps) = some true := by kernel_rfl
theorem ic10_nm : (Tryd.f10.name != "runtime.NumGoroutine") = true := by kernel_rfl
@[simp] theorem ic10_n : Tryd.f10.ntmps = 16 := by kernel_rfl
@[simp] theorem ic10_r : Tryd.f10.results.toList = [ResultVar.tmp 2] := by kernel_rfl

def ic11 : IC :=
  (IC.ops [{ dst := some 1, op := Op.box 31 (Operand.tmp 0), guard := none }, { dst := some 2, op := Op.assign (Operand.const (Value.int IntKind.i64 (Int.ofNat 0))), guard := none }]).seq
  ((IC.ops
        [{ dst := some 3, op := Op.load 31 (Operand.tmp 1), guard := none },
          { dst := some 4, op := Op.call { callee := Callee.value (Operand.func 19), args := { toList := [Operand.tmp 3, Operand.func 24] }, argTypes := { toList := [31, 36] } }, guard := none },
          { dst := some 2, op := Op.assign (Operand.tmp 4), guard := none }]).seq
    IC.ret)
theorem ic11_eq : Tryd.f11.body.map comp = some ic11 := by kernel_rfl
theorem ic11_ok : Tryd.f11.body.map (okC Tryd.f11.ntmps) = some true := by kernel_rfl
theorem ic11_nm : (Tryd.f11.name != "runtime.NumGoroutine") = true := by kernel_rfl
@[simp] theorem ic11_n : Tryd.f11.ntmps = 5 := by kernel_rfl
@[simp] theorem ic11_r : Tryd.f11.results.toList = [ResultVar.tmp 2] := by kernel_rfl

def ic12 : IC :=
  (IC.ops [{ dst := some 1, op := Op.box 31 (Operand.tmp 0), guard := none }, { dst := some 2, op := Op.assign (Operand.const (Value.int IntKind.i64 (Int.ofNat 0))), guard := none }]).seq
  ((IC.ops
        [{ dst := some 3, op := Op.load 31 (Operand.tmp 1), guard := none },
          { dst := some 4, op := Op.call { callee := Callee.value (Operand.func 19), args := { toList := [Operand.tmp 3, Operand.func 27] }, argTypes := { toList := [31, 36] } }, guard := none },
          { dst := some 2, op := Op.assign (Operand.tmp 4), guard := none }]).seq
    IC.ret)
theorem ic12_eq : Tryd.f12.body.map comp = some ic12 := by kernel_rfl
theorem ic12_ok : Tryd.f12.body.map (okC Tryd.f12.ntmps) = some true := by kernel_rfl
theorem ic12_nm : (Tryd.f12.name != "runtime.NumGoroutine") = true := by kernel_rfl
@[simp] theorem ic12_n : Tryd.f12.ntmps = 5 := by kernel_rfl
@[simp] theorem ic12_r : Tryd.f12.results.toList = [ResultVar.tmp 2] := by kernel_rfl

def ic13 : IC :=
  (IC.ops [{ dst := some 1, op := Op.box 31 (Operand.tmp 0), guard := none }, { dst := some 2, op := Op.assign (Operand.const (Value.int IntKind.i64 (Int.ofNat 0))), guard := none }]).seq
  ((IC.ops
        [{ dst := some 3, op := Op.load 31 (Operand.tmp 1), guard := none },
          { dst := some 4, op := Op.call { callee := Callee.value (Operand.func 19), args := { toList := [Operand.tmp 3, Operand.func 28] }, argTypes := { toList := [31, 36] } }, guard := none },
          { dst := some 2, op := Op.assign (Operand.tmp 4), guard := none }]).seq
    IC.ret)
theorem ic13_eq : Tryd.f13.body.map comp = some ic13 := by kernel_rfl
theorem ic13_ok : Tryd.f13.body.map (okC Tryd.f13.ntmps) = some true := by kernel_rfl
theorem ic13_nm : (Tryd.f13.name != "runtime.NumGoroutine") = true := by kernel_rfl
@[simp] theorem ic13_n : Tryd.f13.ntmps = 5 := by kernel_rfl
@[simp] theorem ic13_r : Tryd.f13.results.toList = [ResultVar.tmp 2] := by kernel_rfl

def ic14 : IC :=
  (IC.ops [{ dst := some 4, op := Op.assign (Operand.const (Value.int IntKind.i64 (Int.ofNat 0))), guard := none }]).seq
  ((IC.ops [{ dst := some 5, op := Op.assign (Operand.const (Value.int IntKind.i64 (Int.ofNat 0))), guard := none }]).seq
    (((IC.ops [{ dst := some 6, op := Op.assign (Operand.const (Value.int IntKind.i64 (Int.ofNat 0))), guard := none }]).seq
          (IC.block 0
            (((IC.ops
                        [{ dst := some 7, op := Op.move (Operand.tmp 0), guard := none },
                          { dst := some 8, op := Op.binOp BinOp.gtr 3 (Operand.tmp 7) (Operand.const (Value.int IntKind.i64 (Int.ofNat 0))) 3, guard := none },
                          { dst := some 9, op := Op.move (Operand.tmp 8), guard := none }, { dst := some 10, op := Op.move (Operand.tmp 6), guard := some (some 9, true) },
                          { dst := some 11, op := Op.binOp BinOp.lss 3 (Operand.tmp 10) (Operand.const (Value.int IntKind.i64 (Int.ofNat 2000))) 3, guard := some (some 9, true) },
                          { dst := some 12, op := Op.pick (Operand.tmp 9) (Operand.tmp 11) (Operand.const (Value.bool false)), guard := none }]).seq
                    (IC.cond (Operand.tmp 12) IC.skip (IC.exit 0))).seq
                ((IC.block 1
                      ((IC.ops
                            [{ dst := some 15, op := Op.move (Operand.tmp 0), guard := none }, { dst := some 16, op := Op.move (Operand.tmp 1), guard := none },
                              { dst := some 17,
                                op :=
                                  Op.call
                                    { callee := Callee.value (Operand.func 29), args := { toList := [Operand.tmp 15, Operand.const (Value.int IntKind.i64 (Int.ofNat 0)), Operand.tmp 16] },
                                      argTypes := { toList := [3, 3, 3] } },
                                guard := none },
                              { dst := some 0, op := Op.assign (Operand.tmp 17), guard := none }]).seq
                        (IC.ops
                          [{ dst := some 18, op := Op.move (Operand.tmp 5), guard := none }, { dst := some 19, op := Op.move (Operand.tmp 0), guard := none },
                            { dst := some 20, op := Op.binOp BinOp.add 3 (Operand.tmp 18) (Operand.tmp 19) 3, guard := none },
                            { dst := some 5, op := Op.assign (Operand.tmp 20), guard := none }]))).seq
                  (IC.ops
                    [{ dst := some 13, op := Op.move (Operand.tmp 6), guard := none },
                      { dst := some 14, op := Op.binOp BinOp.add 3 (Operand.tmp 13) (Operand.const (Value.int IntKind.i64 (Int.ofNat 1))) 3, guard := none },
                      { dst := some 6, op := Op.assign (Operand.tmp 14), guard := none }]))).loop)).seq
      ((IC.ops [{ dst := some 21, op := Op.move (Operand.tmp 5), guard := none }, { dst := some 4, op := Op.assign (Operand.tmp 21), guard := none }]).seq IC.ret)))
theorem ic14_eq : Tryd.f14.body.map comp = some ic14 := by kernel_rfl
theorem ic14_ok : Tryd.f14.body.map (okC Tryd.f14.ntmps) = some true := by kernel_rfl
theorem ic14_nm : (Tryd.f14.name != "runtime.NumGoroutine") = true := by kernel_rfl
@[simp] theorem ic14_n : Tryd.f14.ntmps = 22 := by kernel_rfl
@[simp] theorem ic14_r : Tryd.f14.results.toList = [ResultVar.tmp 4] := by kernel_rfl

def ic15 : IC :=
  (IC.ops [{ dst := some 4, op := Op.assign (Operand.const (Value.int IntKind.i64 (Int.ofNat 0))), guard := none }]).seq
  ((IC.ops [{ dst := some 5, op := Op.assign (Operand.const (Value.int IntKind.i64 (Int.ofNat 0))), guard := none }]).seq
    ((IC.block 0
          (((IC.ops
                      [{ dst := some 6, op := Op.move (Operand.tmp 0), guard := none },
                        { dst := some 7, op := Op.binOp BinOp.gtr 3 (Operand.tmp 6) (Operand.const (Value.int IntKind.i64 (Int.ofNat 0))) 3, guard := none },
                        { dst := some 8, op := Op.move (Operand.tmp 7), guard := none }, { dst := some 9, op := Op.move (Operand.tmp 5), guard := some (some 8, true) },
                        { dst := some 10, op := Op.binOp BinOp.lss 3 (Operand.tmp 9) (Operand.const (Value.int IntKind.i64 (Int.ofNat 2000))) 3, guard := some (some 8, true) },
                        { dst := some 11, op := Op.pick (Operand.tmp 8) (Operand.tmp 10) (Operand.const (Value.bool false)), guard := none }]).seq
                  (IC.cond (Operand.tmp 11) IC.skip (IC.exit 0))).seq
              (IC.block 1
                ((IC.ops
                      [{ dst := some 12, op := Op.move (Operand.tmp 0), guard := none }, { dst := some 13, op := Op.move (Operand.tmp 1), guard := none },
                        { dst := some 14,
                          op :=
                            Op.call
                              { callee := Callee.value (Operand.func 29), args := { toList := [Operand.tmp 12, Operand.const (Value.int IntKind.i64 (Int.ofNat 0)), Operand.tmp 13] },
                                argTypes := { toList := [3, 3, 3] } },
                          guard := none },
                        { dst := some 0, op := Op.assign (Operand.tmp 14), guard := none }]).seq
                  (IC.ops
                    [{ dst := some 15, op := Op.move (Operand.tmp 5), guard := none },
                      { dst := some 16, op := Op.binOp BinOp.add 3 (Operand.tmp 15) (Operand.const (Value.int IntKind.i64 (Int.ofNat 1))) 3, guard := none },
                      { dst := some 5, op := Op.assign (Operand.tmp 16), guard := none }])))).loop).seq
      ((IC.ops [{ dst := some 17, op := Op.move (Operand.tmp 5), guard := none }, { dst := some 4, op := Op.assign (Operand.tmp 17), guard := none }]).seq IC.ret)))
theorem ic15_eq : Tryd.f15.body.map comp = some ic15 := by kernel_rfl
theorem ic15_ok : Tryd.f15.body.map (okC Tryd.f15.ntmps) = some true := by kernel_rfl
theorem ic15_nm : (Tryd.f15.name != "runtime.NumGoroutine") = true := by kernel_rfl
@[simp] theorem ic15_n : Tryd.f15.ntmps = 18 := by kernel_rfl
@[simp] theorem ic15_r : Tryd.f15.results.toList = [ResultVar.tmp 4] := by kernel_rfl

def ic16 : IC :=
  (IC.ops
      [{ dst := some 1, op := Op.box 31 (Operand.tmp 0), guard := none }, { dst := some 2, op := Op.assign (Operand.const (Value.string { data := { toList := [] } })), guard := none },
        { dst := some 3, op := Op.assign (Operand.const (Value.bool false)), guard := none }]).seq
  (((IC.ops
            [{ dst := some 6,
                op :=
                  Op.build 60
                    {
                      toList :=
                        [(0,
                            Operand.const
                              (Value.string
                                {
                                  data :=
                                    {
                                      toList :=
                                        [108, 101, 118, 101,
                                          108, 115] } })),
                          (1, Operand.func 30)] },
                guard := none },
              { dst := some 7,
                op :=
                  Op.build 60
                    {
                      toList :=
                        [(0,
                            Operand.const
                              (Value.string
                                {
                                  data :=
                                    {
                                      toList :=
                                        [111, 112, 101,
                                          110] } })),
                          (1, Operand.func 31)] },
                guard := none },
              { dst := some 8,
                op :=
                  Op.build 60
                    {
                      toList :=
                        [(0,
                            Operand.const
                              (Value.string
                                {
                                  data :=
                                    {
                                      toList :=
                                        [115, 112, 101, 101,
                                          100, 115] } })),
                          (1, Operand.func 32)] },
                guard := none },
              { dst := some 9,
                op :=
                  Op.build 60
                    {
                      toList :=
                        [(0,
                            Operand.const
                              (Value.string
                                {
                                  data :=
                                    {
                                      toList :=
                                        [114, 97, 109,
                                          112] } })),
                          (1, Operand.func 33)] },
                guard := none },
              { dst := some 10,
                op :=
                  Op.build 60
                    {
                      toList :=
                        [(0,
                            Operand.const
                              (Value.string
                                {
                                  data :=
                                    {
                                      toList :=
                                        [108, 101, 97,
                                          107] } })),
                          (1, Operand.func 35)] },
                guard := none },
              { dst := some 11,
                op :=
                  Op.build 60
                    {
                      toList :=
                        [(0,
                            Operand.const
                              (Value.string
                                {
                                  data :=
                                    {
                                      toList :=
                                        [115, 116, 97,
                                          114] } })),
                          (1, Operand.func 36)] },
                guard := none },
              { dst := some 12,
                op :=
                  Op.build 60
                    {
                      toList :=
                        [(0,
                            Operand.const
                              (Value.string
                                {
                                  data :=
                                    {
                                      toList :=
                                        [108, 101, 118, 101,
                                          108] } })),
                          (1, Operand.func 37)] },
                guard := none },
              { dst := some 13,
                op :=
                  Op.build 60
                    {
                      toList :=
                        [(0,
                            Operand.const
                              (Value.string
                                {
                                  data :=
                                    {
                                      toList :=
                                        [99, 114, 101, 101,
                                          112] } })),
                          (1, Operand.func 38)] },
                guard := none },
              { dst := some 14,
                op :=
                  Op.build 60
                    {
                      toList :=
                        [(0,
                            Operand.const
                              (Value.string
                                {
                                  data :=
                                    {
                                      toList :=
                                        [118, 97, 110,
                                          101] } })),
                          (1, Operand.func 39)] },
                guard := none },
              { dst := some 15,
                op :=
                  Op.build 60
                    {
                      toList :=
                        [(0,
                            Operand.const
                              (Value.string
                                {
                                  data :=
                                    {
                                      toList :=
                                        [104, 97, 108,
                                          102] } })),
                          (1, Operand.func 40)] },
                guard := none },
              { dst := some 16,
                op :=
                  Op.build 60
                    {
                      toList :=
                        [(0,
                            Operand.const
                              (Value.string
                                {
                                  data :=
                                    {
                                      toList :=
                                        [110, 101, 97,
                                          114] } })),
                          (1, Operand.func 41)] },
                guard := none },
              { dst := some 17,
                op :=
                  Op.build 60
                    {
                      toList :=
                        [(0,
                            Operand.const
                              (Value.string
                                {
                                  data :=
                                    {
                                      toList :=
                                        [99, 111, 110, 116,
                                          97, 99, 116,
                                          115] } })),
                          (1, Operand.func 42)] },
                guard := none },
              { dst := some 18,
                op :=
                  Op.build 60
                    {
                      toList :=
                        [(0,
                            Operand.const
                              (Value.string { data := { toList := [114, 117, 110] } })),
                          (1, Operand.func 43)] },
                guard := none },
              { dst := some 19,
                op :=
                  Op.build 60
                    {
                      toList :=
                        [(0,
                            Operand.const
                              (Value.string
                                {
                                  data :=
                                    {
                                      toList :=
                                        [115, 116, 97, 114,
                                          116, 115] } })),
                          (1, Operand.func 44)] },
                guard := none },
              { dst := some 20,
                op :=
                  Op.build 60
                    {
                      toList :=
                        [(0,
                            Operand.const
                              (Value.string
                                {
                                  data :=
                                    {
                                      toList :=
                                        [103, 97, 116, 101,
                                          115] } })),
                          (1, Operand.func 45)] },
                guard := none },
              { dst := some 21,
                op :=
                  Op.buildSlice 62 15
                    {
                      toList :=
                        [(0, Operand.tmp 6), (1, Operand.tmp 7), (2, Operand.tmp 8), (3, Operand.tmp 9), (4, Operand.tmp 10), (5, Operand.tmp 11), (6, Operand.tmp 12), (7, Operand.tmp 13),
                          (8, Operand.tmp 14), (9, Operand.tmp 15), (10, Operand.tmp 16), (11, Operand.tmp 17), (12, Operand.tmp 18), (13, Operand.tmp 19), (14, Operand.tmp 20)] },
                guard := none },
              { dst := some 22, op := Op.call { callee := Callee.builtin Builtin.len, args := { toList := [Operand.tmp 21] }, argTypes := { toList := [62] } }, guard := none },
              { dst := some 23, op := Op.move (Operand.const (Value.int IntKind.i64 (Int.ofNat 0))), guard := none }]).seq
        (IC.block 0
          ((IC.ops [{ dst := some 24, op := Op.binOp BinOp.lss 3 (Operand.tmp 23) (Operand.tmp 22) 3, guard := none }]).seq
              ((IC.cond (Operand.tmp 24) IC.skip (IC.exit 0)).seq
                ((IC.block 1
                      ((IC.ops
                            [{ dst := some 25, op := Op.indexAddr 62 (Operand.tmp 21) (Operand.tmp 23), guard := none }, { dst := some 26, op := Op.load 60 (Operand.tmp 25), guard := none },
                              { dst := some 5, op := Op.alloc 60, guard := none }, { dst := none, op := Op.store 60 (Operand.tmp 5) (Operand.tmp 26), guard := none }]).seq
                        ((IC.ops
                              [{ dst := some 27, op := Op.fieldAddr 60 (Operand.tmp 5) 1, guard := none }, { dst := some 28, op := Op.load 58 (Operand.tmp 27), guard := none },
                                { dst := some 29, op := Op.load 31 (Operand.tmp 1), guard := none },
                                { dst := some 30, op := Op.call { callee := Callee.value (Operand.tmp 28), args := { toList := [Operand.tmp 29] }, argTypes := { toList := [31] } }, guard := none },
                                { dst := some 31, op := Op.unOp UnOp.not 4 (Operand.tmp 30), guard := none }]).seq
                          (IC.cond (Operand.tmp 31)
                            ((IC.ops
                                  [{ dst := some 32, op := Op.fieldAddr 60 (Operand.tmp 5) 0, guard := none }, { dst := some 33, op := Op.load 9 (Operand.tmp 32), guard := none },
                                    { dst := some 2, op := Op.assign (Operand.tmp 33), guard := none }, { dst := some 3, op := Op.assign (Operand.const (Value.bool true)), guard := none }]).seq
                              IC.ret)
                            IC.skip)))).seq
                  (IC.ops
                    [{ dst := some 34, op := Op.binOp BinOp.add 3 (Operand.tmp 23) (Operand.const (Value.int IntKind.i64 (Int.ofNat 1))) 3, guard := none },
                      { dst := some 23, op := Op.move (Operand.tmp 34), guard := none }])))).loop)).seq
    ((IC.ops
          [{ dst := some 2, op := Op.assign (Operand.const (Value.string { data := { toList := [] } })), guard := none },
            { dst := some 3, op := Op.assign (Operand.const (Value.bool false)), guard := none }]).seq
      IC.ret))
theorem ic16_eq : Tryd.f16.body.map comp = some ic16 := by kernel_rfl
theorem ic16_ok : Tryd.f16.body.map (okC Tryd.f16.ntmps) = some true := by kernel_rfl
theorem ic16_nm : (Tryd.f16.name != "runtime.NumGoroutine") = true := by kernel_rfl
@[simp] theorem ic16_n : Tryd.f16.ntmps = 35 := by kernel_rfl
@[simp] theorem ic16_r : Tryd.f16.results.toList = [ResultVar.tmp 2, ResultVar.tmp 3] := by kernel_rfl

def ic17 : IC :=
  (IC.ops [{ dst := some 4, op := Op.assign (Operand.const Value.nilIface), guard := none }]).seq
  (((IC.ops [{ dst := some 5, op := Op.move (Operand.tmp 1), guard := none }, { dst := some 6, op := Op.binOp BinOp.eql 34 (Operand.tmp 5) (Operand.const Value.nilIface) 34, guard := none }]).seq
        (IC.cond (Operand.tmp 6) ((IC.ops [{ dst := some 4, op := Op.assign (Operand.const Value.nilIface), guard := none }]).seq IC.ret) IC.skip)).seq
    ((IC.ops
          [{ dst := some 7, op := Op.move (Operand.tmp 0), guard := none }, { dst := some 8, op := Op.move (Operand.tmp 1), guard := none },
            { dst := some 9, op := Op.build 54 { toList := [(0, Operand.tmp 7), (1, Operand.tmp 8)] }, guard := none }, { dst := some 10, op := Op.makeInterface 54 (Operand.tmp 9), guard := none },
            { dst := some 4, op := Op.assign (Operand.tmp 10), guard := none }]).seq
      IC.ret))
theorem ic17_eq : Tryd.f17.body.map comp = some ic17 := by kernel_rfl
theorem ic17_ok : Tryd.f17.body.map (okC Tryd.f17.ntmps) = some true := by kernel_rfl
theorem ic17_nm : (Tryd.f17.name != "runtime.NumGoroutine") = true := by kernel_rfl
@[simp] theorem ic17_n : Tryd.f17.ntmps = 11 := by kernel_rfl
@[simp] theorem ic17_r : Tryd.f17.results.toList = [ResultVar.tmp 4] := by kernel_rfl

def ic18 : IC :=
  (IC.ops [{ dst := some 4, op := Op.assign (Operand.const Value.nilIface), guard := none }]).seq
  (((IC.ops
            [{ dst := some 5, op := Op.move (Operand.tmp 0), guard := none },
              { dst := some 6, op := Op.call { callee := Callee.value (Operand.func 46), args := { toList := [Operand.tmp 5] }, argTypes := { toList := [38] } }, guard := none },
              { dst := some 7, op := Op.unOp UnOp.not 4 (Operand.tmp 6), guard := none }]).seq
        (IC.cond (Operand.tmp 7) ((IC.ops [{ dst := some 4, op := Op.assign (Operand.const Value.nilIface), guard := none }]).seq IC.ret) IC.skip)).seq
    ((IC.ops
          [{ dst := some 8, op := Op.move (Operand.tmp 0), guard := none }, { dst := some 9, op := Op.move (Operand.tmp 1), guard := none },
            { dst := some 10,
              op :=
                Op.call
                  { callee := Callee.builtin Builtin.min, args := { toList := [Operand.tmp 9, Operand.const (Value.int IntKind.i64 (Int.ofNat 1099511627775))] }, argTypes := { toList := [3, 3] } },
              guard := none },
            { dst := some 11,
              op := Op.call { callee := Callee.builtin Builtin.max, args := { toList := [Operand.const (Value.int IntKind.i64 (Int.ofNat 0)), Operand.tmp 10] }, argTypes := { toList := [3, 3] } },
              guard := none },
            { dst := some 12, op := Op.build 50 { toList := [(0, Operand.tmp 8), (1, Operand.tmp 11)] }, guard := none },
            { dst := some 13, op := Op.build 52 { toList := [(0, Operand.tmp 12)] }, guard := none }, { dst := some 14, op := Op.makeInterface 52 (Operand.tmp 13), guard := none },
            { dst := some 4, op := Op.assign (Operand.tmp 14), guard := none }]).seq
      IC.ret))
theorem ic18_eq : Tryd.f18.body.map comp = some ic18 := by kernel_rfl
theorem ic18_ok : Tryd.f18.body.map (okC Tryd.f18.ntmps) = some true := by kernel_rfl
theorem ic18_nm : (Tryd.f18.name != "runtime.NumGoroutine") = true := by kernel_rfl
@[simp] theorem ic18_n : Tryd.f18.ntmps = 15 := by kernel_rfl
@[simp] theorem ic18_r : Tryd.f18.results.toList = [ResultVar.tmp 4] := by kernel_rfl

def ic19 : IC :=
  (IC.ops [{ dst := some 2, op := Op.box 31 (Operand.tmp 0), guard := none }, { dst := some 4, op := Op.assign (Operand.const (Value.int IntKind.i64 (Int.ofNat 0))), guard := none }]).seq
  (((IC.ops
            [{ dst := some 8, op := Op.load 31 (Operand.tmp 2), guard := none },
              { dst := some 9, op := Op.call { callee := Callee.value (Operand.func 16), args := { toList := [Operand.tmp 8] }, argTypes := { toList := [31] } }, guard := none },
              { dst := some 7, op := Op.move (Operand.tmp 9), guard := none }, { dst := some 10, op := Op.extract (Operand.tmp 7) 0, guard := none },
              { dst := some 11, op := Op.extract (Operand.tmp 7) 1, guard := none }, { dst := some 5, op := Op.assign (Operand.tmp 10), guard := none },
              { dst := some 6, op := Op.assign (Operand.tmp 11), guard := none }]).seq
        ((IC.ops [{ dst := some 12, op := Op.move (Operand.tmp 6), guard := none }]).seq
          (IC.cond (Operand.tmp 12) ((IC.ops [{ dst := some 4, op := Op.assign (Operand.const (Value.int IntKind.i64 (Int.ofNat 0))), guard := none }]).seq IC.ret) IC.skip))).seq
    ((IC.ops
          [{ dst := some 13, op := Op.move (Operand.tmp 1), guard := none }, { dst := some 14, op := Op.load 31 (Operand.tmp 2), guard := none },
            { dst := some 15, op := Op.call { callee := Callee.value (Operand.tmp 13), args := { toList := [Operand.tmp 14] }, argTypes := { toList := [31] } }, guard := none },
            { dst := some 4, op := Op.assign (Operand.tmp 15), guard := none }]).seq
      IC.ret))
theorem ic19_eq : Tryd.f19.body.map comp = some ic19 := by kernel_rfl
theorem ic19_ok : Tryd.f19.body.map (okC Tryd.f19.ntmps) = some true := by kernel_rfl
theorem ic19_nm : (Tryd.f19.name != "runtime.NumGoroutine") = true := by kernel_rfl
@[simp] theorem ic19_n : Tryd.f19.ntmps = 16 := by kernel_rfl
@[simp] theorem ic19_r : Tryd.f19.results.toList = [ResultVar.tmp 4] := by kernel_rfl

def ic20 : IC :=
  (IC.ops [{ dst := some 1, op := Op.box 31 (Operand.tmp 0), guard := none }, { dst := some 2, op := Op.assign (Operand.const (Value.int IntKind.i64 (Int.ofNat 0))), guard := none }]).seq
  ((IC.opsD
        [{ dst := some 3, op := Op.fieldAddr 31 (Operand.tmp 1) 8, guard := none }, { dst := some 4, op := Op.fieldAddr 29 (Operand.tmp 3) 1, guard := none, bef := [0] },
          { dst := some 5, op := Op.load 3 (Operand.tmp 4), guard := none, bef := [1, 0] }, { dst := some 6, op := Op.fieldAddr 31 (Operand.tmp 1) 8, guard := none },
          { dst := some 7, op := Op.fieldAddr 29 (Operand.tmp 6) 1, guard := none, bef := [3] }, { dst := some 8, op := Op.load 3 (Operand.tmp 7), guard := none, bef := [4, 3] },
          { dst := some 9, op := Op.fieldAddr 31 (Operand.tmp 1) 10, guard := none }, { dst := some 10, op := Op.load 3 (Operand.tmp 9), guard := none, bef := [6] },
          { dst := some 11, op := Op.call { callee := Callee.value (Operand.func 47), args := { toList := [Operand.tmp 8, Operand.tmp 10] }, argTypes := { toList := [3, 3] } }, guard := none,
            bef := [5, 4, 3, 7, 6] },
          { dst := some 12, op := Op.binOp BinOp.add 3 (Operand.tmp 5) (Operand.tmp 11) 3, guard := none, bef := [2, 1, 0, 8, 5, 4, 3, 7, 6] },
          { dst := some 2, op := Op.assign (Operand.tmp 12), guard := none, bef := [9, 2, 1, 0, 8, 5, 4, 3, 7, 6] }]).seq
    IC.ret)
theorem ic20_eq : Tryd.f20.body.map comp = some ic20 := by kernel_rfl
theorem ic20_ok : Tryd.f20.body.map (okC Tryd.f20.ntmps) = some true := by kernel_rfl
theorem ic20_nm : (Tryd.f20.name != "runtime.NumGoroutine") = true := by kernel_rfl
@[simp] theorem ic20_n : Tryd.f20.ntmps = 13 := by kernel_rfl
@[simp] theorem ic20_r : Tryd.f20.results.toList = [ResultVar.tmp 2] := by kernel_rfl

def ic21 : IC :=
  (IC.ops [{ dst := some 1, op := Op.box 31 (Operand.tmp 0), guard := none }, { dst := some 2, op := Op.assign (Operand.const (Value.int IntKind.i64 (Int.ofNat 0))), guard := none }]).seq
  ((IC.opsD
        [{ dst := some 3, op := Op.fieldAddr 31 (Operand.tmp 1) 7, guard := none }, { dst := some 4, op := Op.fieldAddr 29 (Operand.tmp 3) 1, guard := none, bef := [0] },
          { dst := some 5, op := Op.load 3 (Operand.tmp 4), guard := none, bef := [1, 0] }, { dst := some 6, op := Op.fieldAddr 31 (Operand.tmp 1) 7, guard := none },
          { dst := some 7, op := Op.fieldAddr 29 (Operand.tmp 6) 1, guard := none, bef := [3] }, { dst := some 8, op := Op.load 3 (Operand.tmp 7), guard := none, bef := [4, 3] },
          { dst := some 9, op := Op.fieldAddr 31 (Operand.tmp 1) 10, guard := none }, { dst := some 10, op := Op.load 3 (Operand.tmp 9), guard := none, bef := [6] },
          { dst := some 11, op := Op.call { callee := Callee.value (Operand.func 47), args := { toList := [Operand.tmp 8, Operand.tmp 10] }, argTypes := { toList := [3, 3] } }, guard := none,
            bef := [5, 4, 3, 7, 6] },
          { dst := some 12, op := Op.binOp BinOp.add 3 (Operand.tmp 5) (Operand.tmp 11) 3, guard := none, bef := [2, 1, 0, 8, 5, 4, 3, 7, 6] },
          { dst := some 2, op := Op.assign (Operand.tmp 12), guard := none, bef := [9, 2, 1, 0, 8, 5, 4, 3, 7, 6] }]).seq
    IC.ret)
theorem ic21_eq : Tryd.f21.body.map comp = some ic21 := by kernel_rfl
theorem ic21_ok : Tryd.f21.body.map (okC Tryd.f21.ntmps) = some true := by kernel_rfl
theorem ic21_nm : (Tryd.f21.name != "runtime.NumGoroutine") = true := by kernel_rfl
@[simp] theorem ic21_n : Tryd.f21.ntmps = 13 := by kernel_rfl
@[simp] theorem ic21_r : Tryd.f21.results.toList = [ResultVar.tmp 2] := by kernel_rfl

def ic22 : IC :=
  (IC.ops [{ dst := some 4, op := Op.assign (Operand.const (Value.bool false)), guard := none }]).seq
  (((IC.ops
            [{ dst := some 6, op := Op.move (Operand.tmp 0), guard := none }, { dst := some 7, op := Op.binOp BinOp.eql 34 (Operand.tmp 6) (Operand.const Value.nilIface) 34, guard := none },
              { dst := some 8, op := Op.move (Operand.tmp 7), guard := none }, { dst := some 9, op := Op.move (Operand.tmp 1), guard := some (some 8, false) },
              { dst := some 10, op := Op.binOp BinOp.eql 34 (Operand.tmp 9) (Operand.const Value.nilIface) 34, guard := some (some 8, false) },
              { dst := some 11, op := Op.pick (Operand.tmp 8) (Operand.const (Value.bool true)) (Operand.tmp 10), guard := none }]).seq
        (IC.cond (Operand.tmp 11)
          ((IC.ops
                [{ dst := some 12, op := Op.move (Operand.tmp 0), guard := none }, { dst := some 13, op := Op.move (Operand.tmp 1), guard := none },
                  { dst := some 14, op := Op.binOp BinOp.eql 34 (Operand.tmp 12) (Operand.tmp 13) 34, guard := none }, { dst := some 4, op := Op.assign (Operand.tmp 14), guard := none }]).seq
            IC.ret)
          IC.skip)).seq
    ((IC.ops
          [{ dst := some 15, op := Op.move (Operand.tmp 1), guard := none },
            { dst := some 16, op := Op.call { callee := Callee.value (Operand.func 48), args := { toList := [Operand.tmp 15] }, argTypes := { toList := [20] } }, guard := none },
            { dst := some 17, op := Op.call { callee := Callee.invoke (Operand.tmp 16) "Comparable", args := { toList := [] }, argTypes := { toList := [] } }, guard := none },
            { dst := some 5, op := Op.assign (Operand.tmp 17), guard := none }]).seq
      ((IC.ops
            [{ dst := some 18, op := Op.move (Operand.tmp 0), guard := none }, { dst := some 19, op := Op.move (Operand.tmp 1), guard := none },
              { dst := some 20, op := Op.move (Operand.tmp 5), guard := none },
              { dst := some 21,
                op := Op.call { callee := Callee.value (Operand.func 49), args := { toList := [Operand.tmp 18, Operand.tmp 19, Operand.tmp 20] }, argTypes := { toList := [34, 34, 4] } },
                guard := none },
              { dst := some 4, op := Op.assign (Operand.tmp 21), guard := none }]).seq
        IC.ret)))
theorem ic22_eq : Tryd.f22.body.map comp = some ic22 := by kernel_rfl
theorem ic22_ok : Tryd.f22.body.map (okC Tryd.f22.ntmps) = some true := by kernel_rfl
theorem ic22_nm : (Tryd.f22.name != "runtime.NumGoroutine") = true := by kernel_rfl
@[simp] theorem ic22_n : Tryd.f22.ntmps = 22 := by kernel_rfl
@[simp] theorem ic22_r : Tryd.f22.results.toList = [ResultVar.tmp 4] := by kernel_rfl

def ic23 : IC :=
  (IC.ops [{ dst := some 4, op := Op.assign (Operand.const (Value.bool false)), guard := none }]).seq
  (((IC.ops [{ dst := some 8, op := Op.move (Operand.tmp 0), guard := none }, { dst := some 9, op := Op.binOp BinOp.eql 34 (Operand.tmp 8) (Operand.const Value.nilIface) 34, guard := none }]).seq
        (IC.cond (Operand.tmp 9) ((IC.ops [{ dst := some 4, op := Op.assign (Operand.const (Value.bool false)), guard := none }]).seq IC.ret) IC.skip)).seq
    (((IC.ops [{ dst := some 10, op := Op.move (Operand.tmp 1), guard := none }, { dst := some 11, op := Op.binOp BinOp.eql 20 (Operand.tmp 10) (Operand.const Value.nilIface) 20, guard := none }]).seq
          (IC.cond (Operand.tmp 11)
            (IC.ops
              [{ dst := some 12,
                  op :=
                    Op.makeInterface 9
                      (Operand.const
                        (Value.string
                          {
                            data :=
                              {
                                toList :=
                                  [101, 114, 114, 111,
                                    114, 115, 58, 32,
                                    116, 97, 114, 103,
                                    101, 116, 32, 99,
                                    97, 110, 110, 111,
                                    116, 32, 98, 101,
                                    32, 110, 105, 108] } })),
                  guard := none },
                { dst := none, op := Op.panic (Operand.tmp 12), guard := none }])
            IC.skip)).seq
      ((IC.ops
            [{ dst := some 13, op := Op.move (Operand.tmp 1), guard := none },
              { dst := some 14, op := Op.call { callee := Callee.value (Operand.func 50), args := { toList := [Operand.tmp 13] }, argTypes := { toList := [20] } }, guard := none },
              { dst := some 5, op := Op.alloc 71, guard := none }, { dst := none, op := Op.store 71 (Operand.tmp 5) (Operand.tmp 14), guard := none }]).seq
        ((IC.ops
              [{ dst := some 15, op := Op.load 71 (Operand.tmp 5), guard := none },
                { dst := some 16, op := Op.call { callee := Callee.value (Operand.func 51), args := { toList := [Operand.tmp 15] }, argTypes := { toList := [71] } }, guard := none },
                { dst := some 6, op := Op.assign (Operand.tmp 16), guard := none }]).seq
          (((IC.ops
                    [{ dst := some 17, op := Op.move (Operand.tmp 6), guard := none },
                      { dst := some 18, op := Op.call { callee := Callee.invoke (Operand.tmp 17) "Kind", args := { toList := [] }, argTypes := { toList := [] } }, guard := none },
                      { dst := some 19, op := Op.binOp BinOp.neq 74 (Operand.tmp 18) (Operand.const (Value.int IntKind.u8 (Int.ofNat 22))) 74, guard := none },
                      { dst := some 20, op := Op.move (Operand.tmp 19), guard := none }, { dst := some 21, op := Op.load 71 (Operand.tmp 5), guard := some (some 20, false) },
                      { dst := some 22, op := Op.call { callee := Callee.value (Operand.func 52), args := { toList := [Operand.tmp 21] }, argTypes := { toList := [71] } },
                        guard := some (some 20, false) },
                      { dst := some 23, op := Op.pick (Operand.tmp 20) (Operand.const (Value.bool true)) (Operand.tmp 22), guard := none }]).seq
                (IC.cond (Operand.tmp 23)
                  (IC.ops
                    [{ dst := some 24,
                        op :=
                          Op.makeInterface 9
                            (Operand.const
                              (Value.string
                                {
                                  data :=
                                    {
                                      toList :=
                                        [101, 114, 114, 111,
                                          114, 115, 58, 32,
                                          116, 97, 114, 103,
                                          101, 116, 32, 109,
                                          117, 115, 116, 32,
                                          98, 101, 32, 97,
                                          32, 110, 111, 110,
                                          45, 110, 105, 108,
                                          32, 112, 111, 105,
                                          110, 116, 101,
                                          114] } })),
                        guard := none },
                      { dst := none, op := Op.panic (Operand.tmp 24), guard := none }])
                  IC.skip)).seq
            ((IC.ops
                  [{ dst := some 25, op := Op.move (Operand.tmp 6), guard := none },
                    { dst := some 26, op := Op.call { callee := Callee.invoke (Operand.tmp 25) "Elem", args := { toList := [] }, argTypes := { toList := [] } }, guard := none },
                    { dst := some 7, op := Op.assign (Operand.tmp 26), guard := none }]).seq
              (((IC.ops
                        [{ dst := some 27, op := Op.move (Operand.tmp 7), guard := none },
                          { dst := some 28, op := Op.call { callee := Callee.invoke (Operand.tmp 27) "Kind", args := { toList := [] }, argTypes := { toList := [] } }, guard := none },
                          { dst := some 29, op := Op.binOp BinOp.neq 74 (Operand.tmp 28) (Operand.const (Value.int IntKind.u8 (Int.ofNat 20))) 74, guard := none },
                          { dst := some 30, op := Op.move (Operand.tmp 29), guard := none }, { dst := some 31, op := Op.move (Operand.tmp 7), guard := some (some 30, true) },
                          { dst := some 32, op := Op.load 65 (Operand.global 0), guard := some (some 30, true) },
                          { dst := some 33, op := Op.call { callee := Callee.invoke (Operand.tmp 31) "Implements", args := { toList := [Operand.tmp 32] }, argTypes := { toList := [65] } },
                            guard := some (some 30, true) },
                          { dst := some 34, op := Op.unOp UnOp.not 4 (Operand.tmp 33), guard := some (some 30, true) },
                          { dst := some 35, op := Op.pick (Operand.tmp 30) (Operand.tmp 34) (Operand.const (Value.bool false)), guard := none }]).seq
                    (IC.cond (Operand.tmp 35)
                      (IC.ops
                        [{ dst := some 36,
                            op :=
                              Op.makeInterface 9
                                (Operand.const
                                  (Value.string
                                    {
                                      data :=
                                        {
                                          toList :=
                                            [101, 114, 114, 111,
                                              114, 115, 58, 32,
                                              42, 116, 97, 114,
                                              103, 101, 116, 32,
                                              109, 117, 115,
                                              116, 32, 98, 101,
                                              32, 105, 110, 116,
                                              101, 114, 102, 97,
                                              99, 101, 32, 111,
                                              114, 32, 105, 109,
                                              112, 108, 101,
                                              109, 101, 110,
                                              116, 32, 101, 114,
                                              114, 111, 114] } })),
                            guard := none },
                          { dst := none, op := Op.panic (Operand.tmp 36), guard := none }])
                      IC.skip)).seq
                ((IC.ops
                      [{ dst := some 37, op := Op.move (Operand.tmp 0), guard := none }, { dst := some 38, op := Op.move (Operand.tmp 1), guard := none },
                        { dst := some 39, op := Op.load 71 (Operand.tmp 5), guard := none }, { dst := some 40, op := Op.move (Operand.tmp 7), guard := none },
                        { dst := some 41,
                          op :=
                            Op.call
                              { callee := Callee.value (Operand.func 53), args := { toList := [Operand.tmp 37, Operand.tmp 38, Operand.tmp 39, Operand.tmp 40] },
                                argTypes := { toList := [34, 20, 71, 65] } },
                          guard := none },
                        { dst := some 4, op := Op.assign (Operand.tmp 41), guard := none }]).seq
                  IC.ret))))))))
theorem ic23_eq : Tryd.f23.body.map comp = some ic23 := by kernel_rfl
theorem ic23_ok : Tryd.f23.body.map (okC Tryd.f23.ntmps) = some true := by kernel_rfl
theorem ic23_nm : (Tryd.f23.name != "runtime.NumGoroutine") = true := by kernel_rfl
@[simp] theorem ic23_n : Tryd.f23.ntmps = 42 := by kernel_rfl
@[simp] theorem ic23_r : Tryd.f23.results.toList = [ResultVar.tmp 4] := by kernel_rfl

def ic24 : IC :=
  (IC.ops [{ dst := some 1, op := Op.box 31 (Operand.tmp 0), guard := none }, { dst := some 2, op := Op.assign (Operand.const (Value.int IntKind.i64 (Int.ofNat 0))), guard := none }]).seq
  ((IC.opsD
        [{ dst := some 3, op := Op.fieldAddr 31 (Operand.tmp 1) 13, guard := none }, { dst := some 4, op := Op.load 3 (Operand.tmp 3), guard := none, bef := [0] },
          { dst := some 5, op := Op.binOp BinOp.add 3 (Operand.tmp 4) (Operand.const (Value.int IntKind.i64 (Int.ofNat 4))) 3, guard := none, bef := [1, 0] },
          { dst := some 6, op := Op.load 31 (Operand.tmp 1), guard := none },
          { dst := some 7, op := Op.call { callee := Callee.value (Operand.func 25), args := { toList := [Operand.tmp 6] }, argTypes := { toList := [31] } }, guard := none, bef := [3] },
          { dst := some 8, op := Op.binOp BinOp.add 3 (Operand.tmp 5) (Operand.tmp 7) 3, guard := none, bef := [2, 1, 0, 4, 3] },
          { dst := some 9, op := Op.fieldAddr 31 (Operand.tmp 1) 3, guard := none }, { dst := some 10, op := Op.load 3 (Operand.tmp 9), guard := none, bef := [6] },
          { dst := some 11, op := Op.fieldAddr 31 (Operand.tmp 1) 9, guard := none }, { dst := some 12, op := Op.load 3 (Operand.tmp 11), guard := none, bef := [8] },
          { dst := some 13, op := Op.load 31 (Operand.tmp 1), guard := none },
          { dst := some 14, op := Op.call { callee := Callee.value (Operand.func 25), args := { toList := [Operand.tmp 13] }, argTypes := { toList := [31] } }, guard := none, bef := [10, 4, 3] },
          { dst := some 15, op := Op.binOp BinOp.mul 3 (Operand.tmp 12) (Operand.tmp 14) 3, guard := none, bef := [9, 8, 11, 10, 4, 3] },
          { dst := some 16, op := Op.binOp BinOp.add 3 (Operand.tmp 10) (Operand.tmp 15) 3, guard := none, bef := [7, 6, 12, 9, 8, 11, 10, 4, 3] },
          { dst := some 17, op := Op.fieldAddr 31 (Operand.tmp 1) 8, guard := none }, { dst := some 18, op := Op.fieldAddr 29 (Operand.tmp 17) 0, guard := none, bef := [14] },
          { dst := some 19, op := Op.load 3 (Operand.tmp 18), guard := none, bef := [15, 14] }, { dst := some 20, op := Op.fieldAddr 31 (Operand.tmp 1) 9, guard := none },
          { dst := some 21, op := Op.load 3 (Operand.tmp 20), guard := none, bef := [17] },
          { dst := some 22, op := Op.binOp BinOp.sub 3 (Operand.tmp 19) (Operand.tmp 21) 3, guard := none, bef := [16, 15, 14, 18, 17] },
          { dst := some 23, op := Op.call { callee := Callee.value (Operand.func 26), args := { toList := [Operand.tmp 16, Operand.tmp 22] }, argTypes := { toList := [3, 3] } }, guard := none,
            bef := [13, 7, 6, 12, 9, 8, 11, 10, 4, 3, 19, 16, 15, 14, 18, 17] },
          { dst := some 24, op := Op.binOp BinOp.add 3 (Operand.tmp 8) (Operand.tmp 23) 3, guard := none, bef := [5, 2, 1, 0, 4, 3, 20, 13, 7, 6, 12, 9, 8, 11, 10, 19, 16, 15, 14, 18, 17] },
          { dst := some 2, op := Op.assign (Operand.tmp 24), guard := none, bef := [21, 5, 2, 1, 0, 4, 3, 20, 13, 7, 6, 12, 9, 8, 11, 10, 19, 16, 15, 14, 18, 17] }]).seq
    IC.ret)
theorem ic24_eq : Tryd.f24.body.map comp = some ic24 := by kernel_rfl
theorem ic24_ok : Tryd.f24.body.map (okC Tryd.f24.ntmps) = some true := by kernel_rfl
theorem ic24_nm : (Tryd.f24.name != "runtime.NumGoroutine") = true := by kernel_rfl
@[simp] theorem ic24_n : Tryd.f24.ntmps = 25 := by kernel_rfl
@[simp] theorem ic24_r : Tryd.f24.results.toList = [ResultVar.tmp 2] := by kernel_rfl

def ic25 : IC :=
  (IC.ops [{ dst := some 1, op := Op.box 31 (Operand.tmp 0), guard := none }, { dst := some 2, op := Op.assign (Operand.const (Value.int IntKind.i64 (Int.ofNat 0))), guard := none }]).seq
  ((IC.ops
        [{ dst := some 3, op := Op.fieldAddr 31 (Operand.tmp 1) 8, guard := none }, { dst := some 4, op := Op.fieldAddr 29 (Operand.tmp 3) 1, guard := none },
          { dst := some 5, op := Op.load 3 (Operand.tmp 4), guard := none }, { dst := some 6, op := Op.fieldAddr 31 (Operand.tmp 1) 10, guard := none },
          { dst := some 7, op := Op.load 3 (Operand.tmp 6), guard := none },
          { dst := some 8, op := Op.call { callee := Callee.value (Operand.func 54), args := { toList := [Operand.tmp 5, Operand.tmp 7] }, argTypes := { toList := [3, 3] } }, guard := none },
          { dst := some 2, op := Op.assign (Operand.tmp 8), guard := none }]).seq
    IC.ret)
theorem ic25_eq : Tryd.f25.body.map comp = some ic25 := by kernel_rfl
theorem ic25_ok : Tryd.f25.body.map (okC Tryd.f25.ntmps) = some true := by kernel_rfl
theorem ic25_nm : (Tryd.f25.name != "runtime.NumGoroutine") = true := by kernel_rfl
@[simp] theorem ic25_n : Tryd.f25.ntmps = 9 := by kernel_rfl
@[simp] theorem ic25_r : Tryd.f25.results.toList = [ResultVar.tmp 2] := by kernel_rfl

def ic26 : IC :=
  (IC.ops [{ dst := some 4, op := Op.assign (Operand.const (Value.int IntKind.i64 (Int.ofNat 0))), guard := none }]).seq
  ((IC.ops
        [{ dst := some 5, op := Op.move (Operand.tmp 0), guard := none }, { dst := some 6, op := Op.unOp UnOp.neg 3 (Operand.tmp 5), guard := none },
          { dst := some 7, op := Op.move (Operand.tmp 1), guard := none },
          { dst := some 8, op := Op.call { callee := Callee.value (Operand.func 55), args := { toList := [Operand.tmp 6, Operand.tmp 7] }, argTypes := { toList := [3, 3] } }, guard := none },
          { dst := some 9, op := Op.unOp UnOp.neg 3 (Operand.tmp 8), guard := none }, { dst := some 4, op := Op.assign (Operand.tmp 9), guard := none }]).seq
    IC.ret)
theorem ic26_eq : Tryd.f26.body.map comp = some ic26 := by kernel_rfl
theorem ic26_ok : Tryd.f26.body.map (okC Tryd.f26.ntmps) = some true := by kernel_rfl
theorem ic26_nm : (Tryd.f26.name != "runtime.NumGoroutine") = true := by kernel_rfl
@[simp] theorem ic26_n : Tryd.f26.ntmps = 10 := by kernel_rfl
@[simp] theorem ic26_r : Tryd.f26.results.toList = [ResultVar.tmp 4] := by kernel_rfl

def ic27 : IC :=
  (IC.ops [{ dst := some 1, op := Op.box 31 (Operand.tmp 0), guard := none }, { dst := some 2, op := Op.assign (Operand.const (Value.int IntKind.i64 (Int.ofNat 0))), guard := none }]).seq
  ((IC.ops
        [{ dst := some 3, op := Op.fieldAddr 31 (Operand.tmp 1) 7, guard := none }, { dst := some 4, op := Op.fieldAddr 29 (Operand.tmp 3) 1, guard := none },
          { dst := some 5, op := Op.load 3 (Operand.tmp 4), guard := none }, { dst := some 6, op := Op.fieldAddr 31 (Operand.tmp 1) 10, guard := none },
          { dst := some 7, op := Op.load 3 (Operand.tmp 6), guard := none },
          { dst := some 8, op := Op.call { callee := Callee.value (Operand.func 54), args := { toList := [Operand.tmp 5, Operand.tmp 7] }, argTypes := { toList := [3, 3] } }, guard := none },
          { dst := some 9, op := Op.binOp BinOp.add 3 (Operand.tmp 8) (Operand.const (Value.int IntKind.i64 (Int.ofNat 1))) 3, guard := none },
          { dst := some 2, op := Op.assign (Operand.tmp 9), guard := none }]).seq
    IC.ret)
theorem ic27_eq : Tryd.f27.body.map comp = some ic27 := by kernel_rfl
theorem ic27_ok : Tryd.f27.body.map (okC Tryd.f27.ntmps) = some true := by kernel_rfl
theorem ic27_nm : (Tryd.f27.name != "runtime.NumGoroutine") = true := by kernel_rfl
@[simp] theorem ic27_n : Tryd.f27.ntmps = 10 := by kernel_rfl
@[simp] theorem ic27_r : Tryd.f27.results.toList = [ResultVar.tmp 2] := by kernel_rfl

def ic28 : IC :=
  (IC.ops [{ dst := some 1, op := Op.box 31 (Operand.tmp 0), guard := none }, { dst := some 2, op := Op.assign (Operand.const (Value.int IntKind.i64 (Int.ofNat 0))), guard := none }]).seq
  ((IC.ops
        [{ dst := some 3, op := Op.fieldAddr 31 (Operand.tmp 1) 12, guard := none }, { dst := some 4, op := Op.load 3 (Operand.tmp 3), guard := none },
          { dst := some 5, op := Op.binOp BinOp.add 3 (Operand.tmp 4) (Operand.const (Value.int IntKind.i64 (Int.ofNat 1))) 3, guard := none },
          { dst := some 2, op := Op.assign (Operand.tmp 5), guard := none }]).seq
    IC.ret)
theorem ic28_eq : Tryd.f28.body.map comp = some ic28 := by kernel_rfl
theorem ic28_ok : Tryd.f28.body.map (okC Tryd.f28.ntmps) = some true := by kernel_rfl
theorem ic28_nm : (Tryd.f28.name != "runtime.NumGoroutine") = true := by kernel_rfl
@[simp] theorem ic28_n : Tryd.f28.ntmps = 6 := by kernel_rfl
@[simp] theorem ic28_r : Tryd.f28.results.toList = [ResultVar.tmp 2] := by kernel_rfl

def ic29 : IC :=
  (IC.ops [{ dst := some 6, op := Op.assign (Operand.const (Value.int IntKind.i64 (Int.ofNat 0))), guard := none }]).seq
  ((IC.ops
        [{ dst := some 7, op := Op.move (Operand.tmp 2), guard := none },
          { dst := some 8,
            op := Op.call { callee := Callee.builtin Builtin.max, args := { toList := [Operand.tmp 7, Operand.const (Value.int IntKind.i64 (Int.ofNat 0))] }, argTypes := { toList := [3, 3] } },
            guard := none },
          { dst := some 2, op := Op.assign (Operand.tmp 8), guard := none }]).seq
    (((IC.ops
              [{ dst := some 9, op := Op.move (Operand.tmp 0), guard := none }, { dst := some 10, op := Op.move (Operand.tmp 1), guard := none },
                { dst := some 11, op := Op.binOp BinOp.lss 3 (Operand.tmp 9) (Operand.tmp 10) 3, guard := none }]).seq
          (IC.cond (Operand.tmp 11)
            ((IC.ops
                  [{ dst := some 12, op := Op.move (Operand.tmp 0), guard := none }, { dst := some 13, op := Op.move (Operand.tmp 2), guard := none },
                    { dst := some 14, op := Op.binOp BinOp.add 3 (Operand.tmp 12) (Operand.tmp 13) 3, guard := none }, { dst := some 15, op := Op.move (Operand.tmp 1), guard := none },
                    { dst := some 16, op := Op.call { callee := Callee.builtin Builtin.min, args := { toList := [Operand.tmp 14, Operand.tmp 15] }, argTypes := { toList := [3, 3] } }, guard := none },
                    { dst := some 6, op := Op.assign (Operand.tmp 16), guard := none }]).seq
              IC.ret)
            IC.skip)).seq
      ((IC.ops
            [{ dst := some 17, op := Op.move (Operand.tmp 0), guard := none }, { dst := some 18, op := Op.move (Operand.tmp 2), guard := none },
              { dst := some 19, op := Op.binOp BinOp.sub 3 (Operand.tmp 17) (Operand.tmp 18) 3, guard := none }, { dst := some 20, op := Op.move (Operand.tmp 1), guard := none },
              { dst := some 21, op := Op.call { callee := Callee.builtin Builtin.max, args := { toList := [Operand.tmp 19, Operand.tmp 20] }, argTypes := { toList := [3, 3] } }, guard := none },
              { dst := some 6, op := Op.assign (Operand.tmp 21), guard := none }]).seq
        IC.ret)))
theorem ic29_eq : Tryd.f29.body.map comp = some ic29 := by kernel_rfl
theorem ic29_ok : Tryd.f29.body.map (okC Tryd.f29.ntmps) = some true := by kernel_rfl
theorem ic29_nm : (Tryd.f29.name != "runtime.NumGoroutine") = true := by kernel_rfl
@[simp] theorem ic29_n : Tryd.f29.ntmps = 22 := by kernel_rfl
@[simp] theorem ic29_r : Tryd.f29.results.toList = [ResultVar.tmp 6] := by kernel_rfl

def ic30 : IC :=
  (IC.ops [{ dst := some 1, op := Op.box 31 (Operand.tmp 0), guard := none }, { dst := some 2, op := Op.assign (Operand.const (Value.bool false)), guard := none }]).seq
  (((IC.ops
            [{ dst := some 5, op := Op.fieldAddr 31 (Operand.tmp 1) 0, guard := none }, { dst := some 6, op := Op.load 27 (Operand.tmp 5), guard := none },
              { dst := some 7, op := Op.call { callee := Callee.builtin Builtin.len, args := { toList := [Operand.tmp 6] }, argTypes := { toList := [27] } }, guard := none },
              { dst := some 8, op := Op.move (Operand.const (Value.int IntKind.i64 (Int.ofNat 0))), guard := none }]).seq
        (IC.block 0
          ((IC.ops [{ dst := some 9, op := Op.binOp BinOp.lss 3 (Operand.tmp 8) (Operand.tmp 7) 3, guard := none }]).seq
              ((IC.cond (Operand.tmp 9) IC.skip (IC.exit 0)).seq
                ((IC.block 1
                      ((IC.ops
                            [{ dst := some 10, op := Op.move (Operand.tmp 8), guard := none }, { dst := some 11, op := Op.indexAddr 27 (Operand.tmp 6) (Operand.tmp 8), guard := none },
                              { dst := some 12, op := Op.load 3 (Operand.tmp 11), guard := none }, { dst := some 3, op := Op.assign (Operand.tmp 10), guard := none },
                              { dst := some 4, op := Op.assign (Operand.tmp 12), guard := none }]).seq
                        ((IC.ops
                              [{ dst := some 13, op := Op.move (Operand.tmp 3), guard := none },
                                { dst := some 14, op := Op.binOp BinOp.eql 3 (Operand.tmp 13) (Operand.const (Value.int IntKind.i64 (Int.ofNat 0))) 3, guard := none },
                                { dst := some 15, op := Op.move (Operand.tmp 14), guard := none }, { dst := some 16, op := Op.move (Operand.tmp 4), guard := some (some 15, true) },
                                { dst := some 17, op := Op.binOp BinOp.neq 3 (Operand.tmp 16) (Operand.const (Value.int IntKind.i64 (Int.ofNat 0))) 3, guard := some (some 15, true) },
                                { dst := some 18, op := Op.pick (Operand.tmp 15) (Operand.tmp 17) (Operand.const (Value.bool false)), guard := none },
                                { dst := some 19, op := Op.move (Operand.tmp 18), guard := none }, { dst := some 20, op := Op.move (Operand.tmp 3), guard := some (some 19, false) },
                                { dst := some 21, op := Op.binOp BinOp.gtr 3 (Operand.tmp 20) (Operand.const (Value.int IntKind.i64 (Int.ofNat 0))) 3, guard := some (some 19, false) },
                                { dst := some 22, op := Op.move (Operand.tmp 21), guard := some (some 19, false) }, { dst := some 23, op := Op.move (Operand.tmp 4), guard := some (some 22, true) },
                                { dst := some 24, op := Op.fieldAddr 31 (Operand.tmp 1) 0, guard := some (some 22, true) },
                                { dst := some 25, op := Op.load 27 (Operand.tmp 24), guard := some (some 22, true) }, { dst := some 26, op := Op.move (Operand.tmp 3), guard := some (some 22, true) },
                                { dst := some 27, op := Op.binOp BinOp.sub 3 (Operand.tmp 26) (Operand.const (Value.int IntKind.i64 (Int.ofNat 1))) 3, guard := some (some 22, true) },
                                { dst := some 28, op := Op.indexAddr 27 (Operand.tmp 25) (Operand.tmp 27), guard := some (some 22, true) },
                                { dst := some 29, op := Op.load 3 (Operand.tmp 28), guard := some (some 22, true) },
                                { dst := some 30, op := Op.binOp BinOp.leq 3 (Operand.tmp 23) (Operand.tmp 29) 3, guard := some (some 22, true) },
                                { dst := some 31, op := Op.pick (Operand.tmp 22) (Operand.tmp 30) (Operand.const (Value.bool false)), guard := some (some 19, false) },
                                { dst := some 32, op := Op.pick (Operand.tmp 19) (Operand.const (Value.bool true)) (Operand.tmp 31), guard := none },
                                { dst := some 33, op := Op.move (Operand.tmp 32), guard := none }, { dst := some 34, op := Op.move (Operand.tmp 4), guard := some (some 33, false) },
                                { dst := some 35, op := Op.binOp BinOp.gtr 3 (Operand.tmp 34) (Operand.const (Value.int IntKind.i64 (Int.ofNat 1000000))) 3, guard := some (some 33, false) },
                                { dst := some 36, op := Op.pick (Operand.tmp 33) (Operand.const (Value.bool true)) (Operand.tmp 35), guard := none }]).seq
                          (IC.cond (Operand.tmp 36) ((IC.ops [{ dst := some 2, op := Op.assign (Operand.const (Value.bool false)), guard := none }]).seq IC.ret) IC.skip)))).seq
                  (IC.ops
                    [{ dst := some 37, op := Op.binOp BinOp.add 3 (Operand.tmp 8) (Operand.const (Value.int IntKind.i64 (Int.ofNat 1))) 3, guard := none },
                      { dst := some 8, op := Op.move (Operand.tmp 37), guard := none }])))).loop)).seq
    ((IC.ops
          [{ dst := some 38, op := Op.fieldAddr 31 (Operand.tmp 1) 0, guard := none }, { dst := some 39, op := Op.load 27 (Operand.tmp 38), guard := none },
            { dst := some 40, op := Op.call { callee := Callee.builtin Builtin.len, args := { toList := [Operand.tmp 39] }, argTypes := { toList := [27] } }, guard := none },
            { dst := some 41,
              op :=
                Op.call
                  { callee := Callee.value (Operand.func 34),
                    args := { toList := [Operand.tmp 40, Operand.const (Value.int IntKind.i64 (Int.ofNat 2)), Operand.const (Value.int IntKind.i64 (Int.ofNat 16))] },
                    argTypes := { toList := [3, 3, 3] } },
              guard := none },
            { dst := some 2, op := Op.assign (Operand.tmp 41), guard := none }]).seq
      IC.ret))
theorem ic30_eq : Tryd.f30.body.map comp = some ic30 := by kernel_rfl
theorem ic30_ok : Tryd.f30.body.map (okC Tryd.f30.ntmps) = some true := by kernel_rfl
theorem ic30_nm : (Tryd.f30.name != "runtime.NumGoroutine") = true := by kernel_rfl
@[simp] theorem ic30_n : Tryd.f30.ntmps = 42 := by kernel_rfl
@[simp] theorem ic30_r : Tryd.f30.results.toList = [ResultVar.tmp 2] := by kernel_rfl

def ic31 : IC :=
  (IC.ops [{ dst := some 1, op := Op.box 31 (Operand.tmp 0), guard := none }, { dst := some 2, op := Op.assign (Operand.const (Value.bool false)), guard := none }]).seq
  (((IC.ops
            [{ dst := some 5, op := Op.fieldAddr 31 (Operand.tmp 1) 1, guard := none }, { dst := some 6, op := Op.load 27 (Operand.tmp 5), guard := none },
              { dst := some 7, op := Op.call { callee := Callee.builtin Builtin.len, args := { toList := [Operand.tmp 6] }, argTypes := { toList := [27] } }, guard := none },
              { dst := some 8, op := Op.move (Operand.const (Value.int IntKind.i64 (Int.ofNat 0))), guard := none }]).seq
        (IC.block 0
          ((IC.ops [{ dst := some 9, op := Op.binOp BinOp.lss 3 (Operand.tmp 8) (Operand.tmp 7) 3, guard := none }]).seq
              ((IC.cond (Operand.tmp 9) IC.skip (IC.exit 0)).seq
                ((IC.block 1
                      ((IC.ops
                            [{ dst := some 10, op := Op.indexAddr 27 (Operand.tmp 6) (Operand.tmp 8), guard := none }, { dst := some 11, op := Op.load 3 (Operand.tmp 10), guard := none },
                              { dst := some 4, op := Op.assign (Operand.tmp 11), guard := none }]).seq
                        ((IC.ops
                              [{ dst := some 12, op := Op.move (Operand.tmp 4), guard := none },
                                { dst := some 13,
                                  op :=
                                    Op.call
                                      { callee := Callee.value (Operand.func 34),
                                        args := { toList := [Operand.tmp 12, Operand.const (Value.int IntKind.i64 (Int.ofNat 1)), Operand.const (Value.int IntKind.i64 (Int.ofNat 3))] },
                                        argTypes := { toList := [3, 3, 3] } },
                                  guard := none },
                                { dst := some 14, op := Op.unOp UnOp.not 4 (Operand.tmp 13), guard := none }]).seq
                          (IC.cond (Operand.tmp 14) ((IC.ops [{ dst := some 2, op := Op.assign (Operand.const (Value.bool false)), guard := none }]).seq IC.ret) IC.skip)))).seq
                  (IC.ops
                    [{ dst := some 15, op := Op.binOp BinOp.add 3 (Operand.tmp 8) (Operand.const (Value.int IntKind.i64 (Int.ofNat 1))) 3, guard := none },
                      { dst := some 8, op := Op.move (Operand.tmp 15), guard := none }])))).loop)).seq
    ((IC.ops
          [{ dst := some 16, op := Op.fieldAddr 31 (Operand.tmp 1) 1, guard := none }, { dst := some 17, op := Op.load 27 (Operand.tmp 16), guard := none },
            { dst := some 18, op := Op.call { callee := Callee.builtin Builtin.len, args := { toList := [Operand.tmp 17] }, argTypes := { toList := [27] } }, guard := none },
            { dst := some 19, op := Op.fieldAddr 31 (Operand.tmp 1) 0, guard := none }, { dst := some 20, op := Op.load 27 (Operand.tmp 19), guard := none },
            { dst := some 21, op := Op.call { callee := Callee.builtin Builtin.len, args := { toList := [Operand.tmp 20] }, argTypes := { toList := [27] } }, guard := none },
            { dst := some 22, op := Op.binOp BinOp.eql 3 (Operand.tmp 18) (Operand.tmp 21) 3, guard := none }, { dst := some 2, op := Op.assign (Operand.tmp 22), guard := none }]).seq
      IC.ret))
theorem ic31_eq : Tryd.f31.body.map comp = some ic31 := by kernel_rfl
theorem ic31_ok : Tryd.f31.body.map (okC Tryd.f31.ntmps) = some true := by kernel_rfl
theorem ic31_nm : (Tryd.f31.name != "runtime.NumGoroutine") = true := by kernel_rfl
@[simp] theorem ic31_n : Tryd.f31.ntmps = 23 := by kernel_rfl
@[simp] theorem ic31_r : Tryd.f31.results.toList = [ResultVar.tmp 2] := by kernel_rfl

def ic32 : IC :=
  (IC.ops [{ dst := some 1, op := Op.box 31 (Operand.tmp 0), guard := none }, { dst := some 2, op := Op.assign (Operand.const (Value.bool false)), guard := none }]).seq
  ((IC.ops
        [{ dst := some 3, op := Op.fieldAddr 31 (Operand.tmp 1) 8, guard := none }, { dst := some 4, op := Op.fieldAddr 29 (Operand.tmp 3) 0, guard := none },
          { dst := some 5, op := Op.load 3 (Operand.tmp 4), guard := none },
          { dst := some 6, op := Op.binOp BinOp.geq 3 (Operand.tmp 5) (Operand.const (Value.int IntKind.i64 (Int.ofNat 1))) 3, guard := none },
          { dst := some 7, op := Op.move (Operand.tmp 6), guard := none }, { dst := some 8, op := Op.fieldAddr 31 (Operand.tmp 1) 8, guard := some (some 7, true) },
          { dst := some 9, op := Op.fieldAddr 29 (Operand.tmp 8) 0, guard := some (some 7, true) }, { dst := some 10, op := Op.load 3 (Operand.tmp 9), guard := some (some 7, true) },
          { dst := some 11, op := Op.fieldAddr 31 (Operand.tmp 1) 8, guard := some (some 7, true) }, { dst := some 12, op := Op.fieldAddr 29 (Operand.tmp 11) 1, guard := some (some 7, true) },
          { dst := some 13, op := Op.load 3 (Operand.tmp 12), guard := some (some 7, true) },
          { dst := some 14, op := Op.binOp BinOp.leq 3 (Operand.tmp 10) (Operand.tmp 13) 3, guard := some (some 7, true) },
          { dst := some 15, op := Op.pick (Operand.tmp 7) (Operand.tmp 14) (Operand.const (Value.bool false)), guard := none }, { dst := some 16, op := Op.move (Operand.tmp 15), guard := none },
          { dst := some 17, op := Op.fieldAddr 31 (Operand.tmp 1) 8, guard := some (some 16, true) }, { dst := some 18, op := Op.fieldAddr 29 (Operand.tmp 17) 1, guard := some (some 16, true) },
          { dst := some 19, op := Op.load 3 (Operand.tmp 18), guard := some (some 16, true) }, { dst := some 20, op := Op.fieldAddr 31 (Operand.tmp 1) 7, guard := some (some 16, true) },
          { dst := some 21, op := Op.fieldAddr 29 (Operand.tmp 20) 0, guard := some (some 16, true) }, { dst := some 22, op := Op.load 3 (Operand.tmp 21), guard := some (some 16, true) },
          { dst := some 23, op := Op.binOp BinOp.leq 3 (Operand.tmp 19) (Operand.tmp 22) 3, guard := some (some 16, true) },
          { dst := some 24, op := Op.pick (Operand.tmp 16) (Operand.tmp 23) (Operand.const (Value.bool false)), guard := none }, { dst := some 25, op := Op.move (Operand.tmp 24), guard := none },
          { dst := some 26, op := Op.fieldAddr 31 (Operand.tmp 1) 7, guard := some (some 25, true) }, { dst := some 27, op := Op.fieldAddr 29 (Operand.tmp 26) 0, guard := some (some 25, true) },
          { dst := some 28, op := Op.load 3 (Operand.tmp 27), guard := some (some 25, true) }, { dst := some 29, op := Op.fieldAddr 31 (Operand.tmp 1) 7, guard := some (some 25, true) },
          { dst := some 30, op := Op.fieldAddr 29 (Operand.tmp 29) 1, guard := some (some 25, true) }, { dst := some 31, op := Op.load 3 (Operand.tmp 30), guard := some (some 25, true) },
          { dst := some 32, op := Op.binOp BinOp.leq 3 (Operand.tmp 28) (Operand.tmp 31) 3, guard := some (some 25, true) },
          { dst := some 33, op := Op.pick (Operand.tmp 25) (Operand.tmp 32) (Operand.const (Value.bool false)), guard := none }, { dst := some 34, op := Op.move (Operand.tmp 33), guard := none },
          { dst := some 35, op := Op.fieldAddr 31 (Operand.tmp 1) 7, guard := some (some 34, true) }, { dst := some 36, op := Op.fieldAddr 29 (Operand.tmp 35) 1, guard := some (some 34, true) },
          { dst := some 37, op := Op.load 3 (Operand.tmp 36), guard := some (some 34, true) },
          { dst := some 38, op := Op.binOp BinOp.leq 3 (Operand.tmp 37) (Operand.const (Value.int IntKind.i64 (Int.ofNat 1000))) 3, guard := some (some 34, true) },
          { dst := some 39, op := Op.pick (Operand.tmp 34) (Operand.tmp 38) (Operand.const (Value.bool false)), guard := none },
          { dst := some 2, op := Op.assign (Operand.tmp 39), guard := none }]).seq
    IC.ret)
theorem ic32_eq : Tryd.f32.body.map comp = some ic32 := by kernel_rfl
theorem ic32_ok : Tryd.f32.body.map (okC Tryd.f32.ntmps) = some true := by kernel_rfl
theorem ic32_nm : (Tryd.f32.name != "runtime.NumGoroutine") = true := by kernel_rfl
@[simp] theorem ic32_n : Tryd.f32.ntmps = 40 := by kernel_rfl
@[simp] theorem ic32_r : Tryd.f32.results.toList = [ResultVar.tmp 2] := by kernel_rfl

def ic33 : IC :=
  (IC.ops [{ dst := some 1, op := Op.box 31 (Operand.tmp 0), guard := none }, { dst := some 2, op := Op.assign (Operand.const (Value.bool false)), guard := none }]).seq
  ((IC.ops
        [{ dst := some 3, op := Op.fieldAddr 31 (Operand.tmp 1) 10, guard := none }, { dst := some 4, op := Op.load 3 (Operand.tmp 3), guard := none },
          { dst := some 5,
            op :=
              Op.call
                { callee := Callee.value (Operand.func 34),
                  args := { toList := [Operand.tmp 4, Operand.const (Value.int IntKind.i64 (Int.ofNat 1)), Operand.const (Value.int IntKind.i64 (Int.ofNat 1000))] },
                  argTypes := { toList := [3, 3, 3] } },
            guard := none },
          { dst := some 2, op := Op.assign (Operand.tmp 5), guard := none }]).seq
    IC.ret)
theorem ic33_eq : Tryd.f33.body.map comp = some ic33 := by kernel_rfl
theorem ic33_ok : Tryd.f33.body.map (okC Tryd.f33.ntmps) = some true := by kernel_rfl
theorem ic33_nm : (Tryd.f33.name != "runtime.NumGoroutine") = true := by kernel_rfl
@[simp] theorem ic33_n : Tryd.f33.ntmps = 6 := by kernel_rfl
@[simp] theorem ic33_r : Tryd.f33.results.toList = [ResultVar.tmp 2] := by kernel_rfl

def ic34 : IC :=
  (IC.ops [{ dst := some 6, op := Op.assign (Operand.const (Value.bool false)), guard := none }]).seq
  ((IC.ops
        [{ dst := some 7, op := Op.move (Operand.tmp 0), guard := none }, { dst := some 8, op := Op.move (Operand.tmp 1), guard := none },
          { dst := some 9, op := Op.binOp BinOp.geq 3 (Operand.tmp 7) (Operand.tmp 8) 3, guard := none }, { dst := some 10, op := Op.move (Operand.tmp 9), guard := none },
          { dst := some 11, op := Op.move (Operand.tmp 0), guard := some (some 10, true) }, { dst := some 12, op := Op.move (Operand.tmp 2), guard := some (some 10, true) },
          { dst := some 13, op := Op.binOp BinOp.leq 3 (Operand.tmp 11) (Operand.tmp 12) 3, guard := some (some 10, true) },
          { dst := some 14, op := Op.pick (Operand.tmp 10) (Operand.tmp 13) (Operand.const (Value.bool false)), guard := none },
          { dst := some 6, op := Op.assign (Operand.tmp 14), guard := none }]).seq
    IC.ret)
theorem ic34_eq : Tryd.f34.body.map comp = some ic34 := by kernel_rfl
theorem ic34_ok : Tryd.f34.body.map (okC Tryd.f34.ntmps) = some true := by kernel_rfl
theorem ic34_nm : (Tryd.f34.name != "runtime.NumGoroutine") = true := by kernel_rfl
@[simp] theorem ic34_n : Tryd.f34.ntmps = 15 := by kernel_rfl
@[simp] theorem ic34_r : Tryd.f34.results.toList = [ResultVar.tmp 6] := by kernel_rfl

def ic35 : IC :=
  (IC.ops [{ dst := some 1, op := Op.box 31 (Operand.tmp 0), guard := none }, { dst := some 2, op := Op.assign (Operand.const (Value.bool false)), guard := none }]).seq
  ((IC.ops
        [{ dst := some 3, op := Op.fieldAddr 31 (Operand.tmp 1) 9, guard := none }, { dst := some 4, op := Op.load 3 (Operand.tmp 3), guard := none },
          { dst := some 5, op := Op.fieldAddr 31 (Operand.tmp 1) 8, guard := none }, { dst := some 6, op := Op.fieldAddr 29 (Operand.tmp 5) 0, guard := none },
          { dst := some 7, op := Op.load 3 (Operand.tmp 6), guard := none },
          { dst := some 8, op := Op.binOp BinOp.sub 3 (Operand.tmp 7) (Operand.const (Value.int IntKind.i64 (Int.ofNat 1))) 3, guard := none },
          { dst := some 9,
            op :=
              Op.call
                { callee := Callee.value (Operand.func 34), args := { toList := [Operand.tmp 4, Operand.const (Value.int IntKind.i64 (Int.ofNat 0)), Operand.tmp 8] },
                  argTypes := { toList := [3, 3, 3] } },
            guard := none },
          { dst := some 2, op := Op.assign (Operand.tmp 9), guard := none }]).seq
    IC.ret)
theorem ic35_eq : Tryd.f35.body.map comp = some ic35 := by kernel_rfl
theorem ic35_ok : Tryd.f35.body.map (okC Tryd.f35.ntmps) = some true := by kernel_rfl
theorem ic35_nm : (Tryd.f35.name != "runtime.NumGoroutine") = true := by kernel_rfl
@[simp] theorem ic35_n : Tryd.f35.ntmps = 10 := by kernel_rfl
@[simp] theorem ic35_r : Tryd.f35.results.toList = [ResultVar.tmp 2] := by kernel_rfl

def ic36 : IC :=
  (IC.ops [{ dst := some 1, op := Op.box 31 (Operand.tmp 0), guard := none }, { dst := some 2, op := Op.assign (Operand.const (Value.bool false)), guard := none }]).seq
  ((IC.ops
        [{ dst := some 3, op := Op.fieldAddr 31 (Operand.tmp 1) 13, guard := none }, { dst := some 4, op := Op.load 3 (Operand.tmp 3), guard := none },
          { dst := some 5,
            op :=
              Op.call
                { callee := Callee.value (Operand.func 34),
                  args := { toList := [Operand.tmp 4, Operand.const (Value.int IntKind.i64 (Int.ofNat 0)), Operand.const (Value.int IntKind.i64 (Int.ofNat 500))] },
                  argTypes := { toList := [3, 3, 3] } },
            guard := none },
          { dst := some 2, op := Op.assign (Operand.tmp 5), guard := none }]).seq
    IC.ret)
theorem ic36_eq : Tryd.f36.body.map comp = some ic36 := by kernel_rfl
theorem ic36_ok : Tryd.f36.body.map (okC Tryd.f36.ntmps) = some true := by kernel_rfl
theorem ic36_nm : (Tryd.f36.name != "runtime.NumGoroutine") = true := by kernel_rfl
@[simp] theorem ic36_n : Tryd.f36.ntmps = 6 := by kernel_rfl
@[simp] theorem ic36_r : Tryd.f36.results.toList = [ResultVar.tmp 2] := by kernel_rfl

def ic37 : IC :=
  (IC.ops [{ dst := some 1, op := Op.box 31 (Operand.tmp 0), guard := none }, { dst := some 2, op := Op.assign (Operand.const (Value.bool false)), guard := none }]).seq
  ((IC.opsD
        [{ dst := some 3, op := Op.fieldAddr 31 (Operand.tmp 1) 4, guard := none }, { dst := some 4, op := Op.load 3 (Operand.tmp 3), guard := none, bef := [0] },
          { dst := some 5, op := Op.load 31 (Operand.tmp 1), guard := none },
          { dst := some 6, op := Op.call { callee := Callee.value (Operand.func 20), args := { toList := [Operand.tmp 5] }, argTypes := { toList := [31] } }, guard := none, bef := [2] },
          { dst := some 7,
            op :=
              Op.call
                { callee := Callee.value (Operand.func 34), args := { toList := [Operand.tmp 4, Operand.tmp 6, Operand.const (Value.int IntKind.i64 (Int.ofNat 1000000))] },
                  argTypes := { toList := [3, 3, 3] } },
            guard := none, bef := [1, 0, 3, 2] },
          { dst := some 2, op := Op.assign (Operand.tmp 7), guard := none, bef := [4, 1, 0, 3, 2] }]).seq
    IC.ret)
theorem ic37_eq : Tryd.f37.body.map comp = some ic37 := by kernel_rfl
theorem ic37_ok : Tryd.f37.body.map (okC Tryd.f37.ntmps) = some true := by kernel_rfl
theorem ic37_nm : (Tryd.f37.name != "runtime.NumGoroutine") = true := by kernel_rfl
@[simp] theorem ic37_n : Tryd.f37.ntmps = 8 := by kernel_rfl
@[simp] theorem ic37_r : Tryd.f37.results.toList = [ResultVar.tmp 2] := by kernel_rfl

def ic38 : IC :=
  (IC.ops [{ dst := some 1, op := Op.box 31 (Operand.tmp 0), guard := none }, { dst := some 2, op := Op.assign (Operand.const (Value.bool false)), guard := none }]).seq
  ((IC.ops
        [{ dst := some 3, op := Op.fieldAddr 31 (Operand.tmp 1) 5, guard := none }, { dst := some 4, op := Op.load 3 (Operand.tmp 3), guard := none },
          { dst := some 5, op := Op.fieldAddr 31 (Operand.tmp 1) 4, guard := none }, { dst := some 6, op := Op.load 3 (Operand.tmp 5), guard := none },
          { dst := some 7,
            op :=
              Op.call
                { callee := Callee.value (Operand.func 34), args := { toList := [Operand.tmp 4, Operand.tmp 6, Operand.const (Value.int IntKind.i64 (Int.ofNat 1000000))] },
                  argTypes := { toList := [3, 3, 3] } },
            guard := none },
          { dst := some 2, op := Op.assign (Operand.tmp 7), guard := none }]).seq
    IC.ret)
theorem ic38_eq : Tryd.f38.body.map comp = some ic38 := by kernel_rfl
theorem ic38_ok : Tryd.f38.body.map (okC Tryd.f38.ntmps) = some true := by kernel_rfl
theorem ic38_nm : (Tryd.f38.name != "runtime.NumGoroutine") = true := by kernel_rfl
@[simp] theorem ic38_n : Tryd.f38.ntmps = 8 := by kernel_rfl
@[simp] theorem ic38_r : Tryd.f38.results.toList = [ResultVar.tmp 2] := by kernel_rfl

def ic39 : IC :=
  (IC.ops [{ dst := some 1, op := Op.box 31 (Operand.tmp 0), guard := none }, { dst := some 2, op := Op.assign (Operand.const (Value.bool false)), guard := none }]).seq
  ((IC.opsD
        [{ dst := some 3, op := Op.fieldAddr 31 (Operand.tmp 1) 3, guard := none }, { dst := some 4, op := Op.load 3 (Operand.tmp 3), guard := none, bef := [0] },
          { dst := some 5, op := Op.fieldAddr 31 (Operand.tmp 1) 5, guard := none }, { dst := some 6, op := Op.load 3 (Operand.tmp 5), guard := none, bef := [2] },
          { dst := some 7, op := Op.fieldAddr 31 (Operand.tmp 1) 9, guard := none }, { dst := some 8, op := Op.load 3 (Operand.tmp 7), guard := none, bef := [4] },
          { dst := some 9, op := Op.fieldAddr 31 (Operand.tmp 1) 13, guard := none }, { dst := some 10, op := Op.load 3 (Operand.tmp 9), guard := none, bef := [6] },
          { dst := some 11, op := Op.binOp BinOp.add 3 (Operand.tmp 10) (Operand.const (Value.int IntKind.i64 (Int.ofNat 4))) 3, guard := none, bef := [7, 6] },
          { dst := some 12, op := Op.load 31 (Operand.tmp 1), guard := none },
          { dst := some 13, op := Op.call { callee := Callee.value (Operand.func 25), args := { toList := [Operand.tmp 12] }, argTypes := { toList := [31] } }, guard := none, bef := [9] },
          { dst := some 14, op := Op.binOp BinOp.add 3 (Operand.tmp 11) (Operand.tmp 13) 3, guard := none, bef := [8, 7, 6, 10, 9] },
          { dst := some 15, op := Op.binOp BinOp.mul 3 (Operand.tmp 8) (Operand.tmp 14) 3, guard := none, bef := [5, 4, 11, 8, 7, 6, 10, 9] },
          { dst := some 16, op := Op.binOp BinOp.add 3 (Operand.tmp 6) (Operand.tmp 15) 3, guard := none, bef := [3, 2, 12, 5, 4, 11, 8, 7, 6, 10, 9] },
          { dst := some 17,
            op :=
              Op.call
                { callee := Callee.value (Operand.func 34), args := { toList := [Operand.tmp 4, Operand.tmp 16, Operand.const (Value.int IntKind.i64 (Int.ofNat 1000000))] },
                  argTypes := { toList := [3, 3, 3] } },
            guard := none, bef := [1, 0, 13, 3, 2, 12, 5, 4, 11, 8, 7, 6, 10, 9] },
          { dst := some 18, op := Op.move (Operand.tmp 17), guard := none, bef := [14, 1, 0, 13, 3, 2, 12, 5, 4, 11, 8, 7, 6, 10, 9] },
          { dst := some 19, op := Op.fieldAddr 31 (Operand.tmp 1) 3, guard := some (some 18, true), bef := [15, 14, 1, 0, 13, 3, 2, 12, 5, 4, 11, 8, 7, 6, 10, 9] },
          { dst := some 20, op := Op.load 3 (Operand.tmp 19), guard := some (some 18, true), bef := [16, 15, 14, 1, 0, 13, 3, 2, 12, 5, 4, 11, 8, 7, 6, 10, 9] },
          { dst := some 21, op := Op.binOp BinOp.mul 3 (Operand.const (Value.int IntKind.i64 (Int.ofNat 2))) (Operand.tmp 20) 3, guard := some (some 18, true),
            bef := [17, 16, 15, 14, 1, 0, 13, 3, 2, 12, 5, 4, 11, 8, 7, 6, 10, 9] },
          { dst := some 22, op := Op.fieldAddr 31 (Operand.tmp 1) 7, guard := some (some 18, true), bef := [15, 14, 1, 0, 13, 3, 2, 12, 5, 4, 11, 8, 7, 6, 10, 9] },
          { dst := some 23, op := Op.fieldAddr 29 (Operand.tmp 22) 1, guard := some (some 18, true), bef := [19, 15, 14, 1, 0, 13, 3, 2, 12, 5, 4, 11, 8, 7, 6, 10, 9] },
          { dst := some 24, op := Op.load 3 (Operand.tmp 23), guard := some (some 18, true), bef := [20, 19, 15, 14, 1, 0, 13, 3, 2, 12, 5, 4, 11, 8, 7, 6, 10, 9] },
          { dst := some 25, op := Op.binOp BinOp.geq 3 (Operand.tmp 21) (Operand.tmp 24) 3, guard := some (some 18, true),
            bef := [18, 17, 16, 15, 14, 1, 0, 13, 3, 2, 12, 5, 4, 11, 8, 7, 6, 10, 9, 21, 20, 19] },
          { dst := some 26, op := Op.pick (Operand.tmp 18) (Operand.tmp 25) (Operand.const (Value.bool false)), guard := none,
            bef := [15, 14, 1, 0, 13, 3, 2, 12, 5, 4, 11, 8, 7, 6, 10, 9, 22, 18, 17, 16, 21, 20, 19] },
          { dst := some 2, op := Op.assign (Operand.tmp 26), guard := none, bef := [23, 15, 14, 1, 0, 13, 3, 2, 12, 5, 4, 11, 8, 7, 6, 10, 9, 22, 18, 17, 16, 21, 20, 19] }]).seq
    IC.ret)
theorem ic39_eq : Tryd.f39.body.map comp = some ic39 := by kernel_rfl
theorem ic39_ok : Tryd.f39.body.map (okC Tryd.f39.ntmps) = some true := by kernel_rfl
theorem ic39_nm : (Tryd.f39.name != "runtime.NumGoroutine") = true := by kernel_rfl
@[simp] theorem ic39_n : Tryd.f39.ntmps = 27 := by kernel_rfl
@[simp] theorem ic39_r : Tryd.f39.results.toList = [ResultVar.tmp 2] := by kernel_rfl

def ic40 : IC :=
  (IC.ops [{ dst := some 1, op := Op.box 31 (Operand.tmp 0), guard := none }, { dst := some 2, op := Op.assign (Operand.const (Value.bool false)), guard := none }]).seq
  ((IC.opsD
        [{ dst := some 3, op := Op.fieldAddr 31 (Operand.tmp 1) 2, guard := none }, { dst := some 4, op := Op.load 3 (Operand.tmp 3), guard := none, bef := [0] },
          { dst := some 5, op := Op.fieldAddr 31 (Operand.tmp 1) 3, guard := none }, { dst := some 6, op := Op.load 3 (Operand.tmp 5), guard := none, bef := [2] },
          { dst := some 7, op := Op.load 31 (Operand.tmp 1), guard := none },
          { dst := some 8, op := Op.call { callee := Callee.value (Operand.func 20), args := { toList := [Operand.tmp 7] }, argTypes := { toList := [31] } }, guard := none, bef := [4] },
          { dst := some 9, op := Op.binOp BinOp.add 3 (Operand.tmp 6) (Operand.tmp 8) 3, guard := none, bef := [3, 2, 5, 4] },
          { dst := some 10,
            op :=
              Op.call
                { callee := Callee.value (Operand.func 34), args := { toList := [Operand.tmp 4, Operand.tmp 9, Operand.const (Value.int IntKind.i64 (Int.ofNat 1000000))] },
                  argTypes := { toList := [3, 3, 3] } },
            guard := none, bef := [1, 0, 6, 3, 2, 5, 4] },
          { dst := some 2, op := Op.assign (Operand.tmp 10), guard := none, bef := [7, 1, 0, 6, 3, 2, 5, 4] }]).seq
    IC.ret)
theorem ic40_eq : Tryd.f40.body.map comp = some ic40 := by kernel_rfl
theorem ic40_ok : Tryd.f40.body.map (okC Tryd.f40.ntmps) = some true := by kernel_rfl
theorem ic40_nm : (Tryd.f40.name != "runtime.NumGoroutine") = true := by kernel_rfl
@[simp] theorem ic40_n : Tryd.f40.ntmps = 11 := by kernel_rfl
@[simp] theorem ic40_r : Tryd.f40.results.toList = [ResultVar.tmp 2] := by kernel_rfl

def ic41 : IC :=
  (IC.ops [{ dst := some 1, op := Op.box 31 (Operand.tmp 0), guard := none }, { dst := some 2, op := Op.assign (Operand.const (Value.bool false)), guard := none }]).seq
  (((IC.ops [{ dst := some 3, op := Op.assign (Operand.const (Value.int IntKind.i64 (Int.ofNat 1))), guard := none }]).seq
        (IC.block 0
          (((IC.ops
                      [{ dst := some 4, op := Op.move (Operand.tmp 3), guard := none }, { dst := some 5, op := Op.fieldAddr 31 (Operand.tmp 1) 0, guard := none },
                        { dst := some 6, op := Op.load 27 (Operand.tmp 5), guard := none },
                        { dst := some 7, op := Op.call { callee := Callee.builtin Builtin.len, args := { toList := [Operand.tmp 6] }, argTypes := { toList := [27] } }, guard := none },
                        { dst := some 8, op := Op.binOp BinOp.lss 3 (Operand.tmp 4) (Operand.tmp 7) 3, guard := none }]).seq
                  (IC.cond (Operand.tmp 8) IC.skip (IC.exit 0))).seq
              ((IC.block 1
                    ((IC.opsD
                          [{ dst := some 11, op := Op.fieldAddr 31 (Operand.tmp 1) 0, guard := none }, { dst := some 12, op := Op.load 27 (Operand.tmp 11), guard := none, bef := [0] },
                            { dst := some 13, op := Op.move (Operand.tmp 3), guard := none },
                            { dst := some 14, op := Op.indexAddr 27 (Operand.tmp 12) (Operand.tmp 13), guard := none, bef := [1, 0, 2] },
                            { dst := some 15, op := Op.load 3 (Operand.tmp 14), guard := none, bef := [3, 1, 0, 2] }, { dst := some 16, op := Op.fieldAddr 31 (Operand.tmp 1) 0, guard := none },
                            { dst := some 17, op := Op.load 27 (Operand.tmp 16), guard := none, bef := [5] }, { dst := some 18, op := Op.move (Operand.tmp 3), guard := none },
                            { dst := some 19, op := Op.binOp BinOp.sub 3 (Operand.tmp 18) (Operand.const (Value.int IntKind.i64 (Int.ofNat 1))) 3, guard := none, bef := [7] },
                            { dst := some 20, op := Op.indexAddr 27 (Operand.tmp 17) (Operand.tmp 19), guard := none, bef := [6, 5, 8, 7] },
                            { dst := some 21, op := Op.load 3 (Operand.tmp 20), guard := none, bef := [9, 6, 5, 8, 7] },
                            { dst := some 22, op := Op.binOp BinOp.sub 3 (Operand.tmp 15) (Operand.tmp 21) 3, guard := none, bef := [4, 3, 1, 0, 2, 10, 9, 6, 5, 8, 7] },
                            { dst := some 23, op := Op.fieldAddr 31 (Operand.tmp 1) 6, guard := none }, { dst := some 24, op := Op.load 3 (Operand.tmp 23), guard := none, bef := [12] },
                            { dst := some 25, op := Op.binOp BinOp.mul 3 (Operand.const (Value.int IntKind.i64 (Int.ofNat 2))) (Operand.tmp 24) 3, guard := none, bef := [13, 12] },
                            { dst := some 26, op := Op.fieldAddr 31 (Operand.tmp 1) 7, guard := none }, { dst := some 27, op := Op.fieldAddr 29 (Operand.tmp 26) 1, guard := none, bef := [15] },
                            { dst := some 28, op := Op.load 3 (Operand.tmp 27), guard := none, bef := [16, 15] },
                            { dst := some 29, op := Op.binOp BinOp.add 3 (Operand.tmp 25) (Operand.tmp 28) 3, guard := none, bef := [14, 13, 12, 17, 16, 15] },
                            { dst := some 30, op := Op.binOp BinOp.leq 3 (Operand.tmp 22) (Operand.tmp 29) 3, guard := none,
                              bef := [11, 4, 3, 1, 0, 2, 10, 9, 6, 5, 8, 7, 18, 14, 13, 12, 17, 16, 15] }]).seq
                      (IC.cond (Operand.tmp 30) ((IC.ops [{ dst := some 2, op := Op.assign (Operand.const (Value.bool false)), guard := none }]).seq IC.ret) IC.skip))).seq
                (IC.ops
                  [{ dst := some 9, op := Op.move (Operand.tmp 3), guard := none },
                    { dst := some 10, op := Op.binOp BinOp.add 3 (Operand.tmp 9) (Operand.const (Value.int IntKind.i64 (Int.ofNat 1))) 3, guard := none },
                    { dst := some 3, op := Op.assign (Operand.tmp 10), guard := none }]))).loop)).seq
    ((IC.opsD
          [{ dst := some 31, op := Op.fieldAddr 31 (Operand.tmp 1) 6, guard := none }, { dst := some 32, op := Op.load 3 (Operand.tmp 31), guard := none, bef := [0] },
            { dst := some 33, op := Op.fieldAddr 31 (Operand.tmp 1) 2, guard := none }, { dst := some 34, op := Op.load 3 (Operand.tmp 33), guard := none, bef := [2] },
            { dst := some 35, op := Op.load 31 (Operand.tmp 1), guard := none },
            { dst := some 36, op := Op.call { callee := Callee.value (Operand.func 21), args := { toList := [Operand.tmp 35] }, argTypes := { toList := [31] } }, guard := none, bef := [4] },
            { dst := some 37, op := Op.binOp BinOp.add 3 (Operand.tmp 34) (Operand.tmp 36) 3, guard := none, bef := [3, 2, 5, 4] },
            { dst := some 38,
              op :=
                Op.call
                  { callee := Callee.value (Operand.func 34), args := { toList := [Operand.tmp 32, Operand.tmp 37, Operand.const (Value.int IntKind.i64 (Int.ofNat 1000000))] },
                    argTypes := { toList := [3, 3, 3] } },
              guard := none, bef := [1, 0, 6, 3, 2, 5, 4] },
            { dst := some 2, op := Op.assign (Operand.tmp 38), guard := none, bef := [7, 1, 0, 6, 3, 2, 5, 4] }]).seq
      IC.ret))
theorem ic41_eq : Tryd.f41.body.map comp = some ic41 := by kernel_rfl
theorem ic41_ok : Tryd.f41.body.map (okC Tryd.f41.ntmps) = some true := by kernel_rfl
theorem ic41_nm : (Tryd.f41.name != "runtime.NumGoroutine") = true := by kernel_rfl
@[simp] theorem ic41_n : Tryd.f41.ntmps = 39 := by kernel_rfl
@[simp] theorem ic41_r : Tryd.f41.results.toList = [ResultVar.tmp 2] := by kernel_rfl

def ic42 : IC :=
  (IC.ops [{ dst := some 1, op := Op.box 31 (Operand.tmp 0), guard := none }, { dst := some 2, op := Op.assign (Operand.const (Value.bool false)), guard := none }]).seq
  ((IC.ops
        [{ dst := some 3, op := Op.fieldAddr 31 (Operand.tmp 1) 11, guard := none }, { dst := some 4, op := Op.load 3 (Operand.tmp 3), guard := none },
          { dst := some 5,
            op :=
              Op.call
                { callee := Callee.value (Operand.func 34),
                  args := { toList := [Operand.tmp 4, Operand.const (Value.int IntKind.i64 (Int.ofNat 0)), Operand.const (Value.int IntKind.i64 (Int.ofNat 100))] },
                  argTypes := { toList := [3, 3, 3] } },
            guard := none },
          { dst := some 6, op := Op.move (Operand.tmp 5), guard := none }, { dst := some 7, op := Op.fieldAddr 31 (Operand.tmp 1) 12, guard := some (some 6, true) },
          { dst := some 8, op := Op.load 3 (Operand.tmp 7), guard := some (some 6, true) }, { dst := some 9, op := Op.fieldAddr 31 (Operand.tmp 1) 11, guard := some (some 6, true) },
          { dst := some 10, op := Op.load 3 (Operand.tmp 9), guard := some (some 6, true) },
          { dst := some 11, op := Op.binOp BinOp.add 3 (Operand.tmp 10) (Operand.const (Value.int IntKind.i64 (Int.ofNat 1))) 3, guard := some (some 6, true) },
          { dst := some 12,
            op :=
              Op.call
                { callee := Callee.value (Operand.func 34), args := { toList := [Operand.tmp 8, Operand.tmp 11, Operand.const (Value.int IntKind.i64 (Int.ofNat 200))] },
                  argTypes := { toList := [3, 3, 3] } },
            guard := some (some 6, true) },
          { dst := some 13, op := Op.pick (Operand.tmp 6) (Operand.tmp 12) (Operand.const (Value.bool false)), guard := none }, { dst := some 2, op := Op.assign (Operand.tmp 13), guard := none }]).seq
    IC.ret)
theorem ic42_eq : Tryd.f42.body.map comp = some ic42 := by kernel_rfl
theorem ic42_ok : Tryd.f42.body.map (okC Tryd.f42.ntmps) = some true := by kernel_rfl
theorem ic42_nm : (Tryd.f42.name != "runtime.NumGoroutine") = true := by kernel_rfl
@[simp] theorem ic42_n : Tryd.f42.ntmps = 14 := by kernel_rfl
@[simp] theorem ic42_r : Tryd.f42.results.toList = [ResultVar.tmp 2] := by kernel_rfl

def ic43 : IC :=
  (IC.ops [{ dst := some 1, op := Op.box 31 (Operand.tmp 0), guard := none }, { dst := some 2, op := Op.assign (Operand.const (Value.bool false)), guard := none }]).seq
  ((IC.ops
        [{ dst := some 3, op := Op.fieldAddr 31 (Operand.tmp 1) 14, guard := none }, { dst := some 4, op := Op.load 3 (Operand.tmp 3), guard := none },
          { dst := some 5,
            op :=
              Op.call
                { callee := Callee.value (Operand.func 34),
                  args := { toList := [Operand.tmp 4, Operand.const (Value.int IntKind.i64 (Int.ofNat 1)), Operand.const (Value.int IntKind.i64 (Int.ofNat 1000000))] },
                  argTypes := { toList := [3, 3, 3] } },
            guard := none },
          { dst := some 2, op := Op.assign (Operand.tmp 5), guard := none }]).seq
    IC.ret)
theorem ic43_eq : Tryd.f43.body.map comp = some ic43 := by kernel_rfl
theorem ic43_ok : Tryd.f43.body.map (okC Tryd.f43.ntmps) = some true := by kernel_rfl
theorem ic43_nm : (Tryd.f43.name != "runtime.NumGoroutine") = true := by kernel_rfl
@[simp] theorem ic43_n : Tryd.f43.ntmps = 6 := by kernel_rfl
@[simp] theorem ic43_r : Tryd.f43.results.toList = [ResultVar.tmp 2] := by kernel_rfl

def ic44 : IC :=
  (IC.ops [{ dst := some 1, op := Op.box 31 (Operand.tmp 0), guard := none }, { dst := some 2, op := Op.assign (Operand.const (Value.bool false)), guard := none }]).seq
  ((IC.ops
        [{ dst := some 3, op := Op.fieldAddr 31 (Operand.tmp 1) 15, guard := none }, { dst := some 4, op := Op.load 3 (Operand.tmp 3), guard := none },
          { dst := some 5,
            op :=
              Op.call
                { callee := Callee.value (Operand.func 34),
                  args := { toList := [Operand.tmp 4, Operand.const (Value.int IntKind.i64 (Int.ofNat 1)), Operand.const (Value.int IntKind.i64 (Int.ofNat 100))] },
                  argTypes := { toList := [3, 3, 3] } },
            guard := none },
          { dst := some 6, op := Op.move (Operand.tmp 5), guard := none }, { dst := some 7, op := Op.fieldAddr 31 (Operand.tmp 1) 16, guard := some (some 6, true) },
          { dst := some 8, op := Op.load 3 (Operand.tmp 7), guard := some (some 6, true) },
          { dst := some 9,
            op :=
              Op.call
                { callee := Callee.value (Operand.func 34),
                  args := { toList := [Operand.tmp 8, Operand.const (Value.int IntKind.i64 (Int.ofNat 1)), Operand.const (Value.int IntKind.i64 (Int.ofNat 1000000))] },
                  argTypes := { toList := [3, 3, 3] } },
            guard := some (some 6, true) },
          { dst := some 10, op := Op.pick (Operand.tmp 6) (Operand.tmp 9) (Operand.const (Value.bool false)), guard := none }, { dst := some 2, op := Op.assign (Operand.tmp 10), guard := none }]).seq
    IC.ret)
theorem ic44_eq : Tryd.f44.body.map comp = some ic44 := by kernel_rfl
theorem ic44_ok : Tryd.f44.body.map (okC Tryd.f44.ntmps) = some true := by kernel_rfl
theorem ic44_nm : (Tryd.f44.name != "runtime.NumGoroutine") = true := by kernel_rfl
@[simp] theorem ic44_n : Tryd.f44.ntmps = 11 := by kernel_rfl
@[simp] theorem ic44_r : Tryd.f44.results.toList = [ResultVar.tmp 2] := by kernel_rfl

def ic45 : IC :=
  (IC.ops [{ dst := some 1, op := Op.box 31 (Operand.tmp 0), guard := none }, { dst := some 2, op := Op.assign (Operand.const (Value.bool false)), guard := none }]).seq
  ((IC.ops
        [{ dst := some 3, op := Op.fieldAddr 31 (Operand.tmp 1) 17, guard := none }, { dst := some 4, op := Op.load 3 (Operand.tmp 3), guard := none },
          { dst := some 5,
            op :=
              Op.call
                { callee := Callee.value (Operand.func 34),
                  args := { toList := [Operand.tmp 4, Operand.const (Value.int IntKind.i64 (Int.ofNat 1)), Operand.const (Value.int IntKind.i64 (Int.ofNat 1000000))] },
                  argTypes := { toList := [3, 3, 3] } },
            guard := none },
          { dst := some 6, op := Op.move (Operand.tmp 5), guard := none }, { dst := some 7, op := Op.fieldAddr 31 (Operand.tmp 1) 18, guard := some (some 6, true) },
          { dst := some 8, op := Op.load 3 (Operand.tmp 7), guard := some (some 6, true) },
          { dst := some 9,
            op :=
              Op.call
                { callee := Callee.value (Operand.func 34),
                  args := { toList := [Operand.tmp 8, Operand.const (Value.int IntKind.i64 (Int.ofNat 1)), Operand.const (Value.int IntKind.i64 (Int.ofNat 20))] },
                  argTypes := { toList := [3, 3, 3] } },
            guard := some (some 6, true) },
          { dst := some 10, op := Op.pick (Operand.tmp 6) (Operand.tmp 9) (Operand.const (Value.bool false)), guard := none }, { dst := some 2, op := Op.assign (Operand.tmp 10), guard := none }]).seq
    IC.ret)
theorem ic45_eq : Tryd.f45.body.map comp = some ic45 := by kernel_rfl
theorem ic45_ok : Tryd.f45.body.map (okC Tryd.f45.ntmps) = some true := by kernel_rfl
theorem ic45_nm : (Tryd.f45.name != "runtime.NumGoroutine") = true := by kernel_rfl
@[simp] theorem ic45_n : Tryd.f45.ntmps = 11 := by kernel_rfl
@[simp] theorem ic45_r : Tryd.f45.results.toList = [ResultVar.tmp 2] := by kernel_rfl

def ic46 : IC :=
  (IC.ops [{ dst := some 2, op := Op.assign (Operand.const (Value.bool false)), guard := none }]).seq
  ((IC.ops
        [{ dst := some 3, op := Op.move (Operand.tmp 0), guard := none },
          { dst := some 4, op := Op.binOp BinOp.geq 38 (Operand.tmp 3) (Operand.const (Value.int IntKind.i64 (Int.ofNat 1))) 38, guard := none },
          { dst := some 5, op := Op.move (Operand.tmp 4), guard := none }, { dst := some 6, op := Op.move (Operand.tmp 0), guard := some (some 5, true) },
          { dst := some 7, op := Op.binOp BinOp.leq 38 (Operand.tmp 6) (Operand.const (Value.int IntKind.i64 (Int.ofNat 11))) 38, guard := some (some 5, true) },
          { dst := some 8, op := Op.pick (Operand.tmp 5) (Operand.tmp 7) (Operand.const (Value.bool false)), guard := none }, { dst := some 2, op := Op.assign (Operand.tmp 8), guard := none }]).seq
    IC.ret)
theorem ic46_eq : Tryd.f46.body.map comp = some ic46 := by kernel_rfl
theorem ic46_ok : Tryd.f46.body.map (okC Tryd.f46.ntmps) = some true := by kernel_rfl
theorem ic46_nm : (Tryd.f46.name != "runtime.NumGoroutine") = true := by kernel_rfl
@[simp] theorem ic46_n : Tryd.f46.ntmps = 9 := by kernel_rfl
@[simp] theorem ic46_r : Tryd.f46.results.toList = [ResultVar.tmp 2] := by kernel_rfl

def ic47 : IC :=
  (IC.ops [{ dst := some 4, op := Op.assign (Operand.const (Value.int IntKind.i64 (Int.ofNat 0))), guard := none }]).seq
  (((IC.ops
            [{ dst := some 7, op := Op.move (Operand.tmp 1), guard := none },
              { dst := some 8, op := Op.binOp BinOp.lss 3 (Operand.tmp 7) (Operand.const (Value.int IntKind.i64 (Int.ofNat 1))) 3, guard := none }]).seq
        (IC.cond (Operand.tmp 8) ((IC.ops [{ dst := some 4, op := Op.assign (Operand.const (Value.int IntKind.i64 (Int.ofNat 0))), guard := none }]).seq IC.ret) IC.skip)).seq
    ((IC.ops
          [{ dst := some 9, op := Op.move (Operand.tmp 0), guard := none }, { dst := some 10, op := Op.move (Operand.tmp 1), guard := none },
            { dst := some 11, op := Op.call { callee := Callee.value (Operand.func 54), args := { toList := [Operand.tmp 9, Operand.tmp 10] }, argTypes := { toList := [3, 3] } }, guard := none },
            { dst := some 5, op := Op.assign (Operand.tmp 11), guard := none }]).seq
      (((IC.ops
                [{ dst := some 12, op := Op.move (Operand.tmp 5), guard := none },
                  { dst := some 13, op := Op.binOp BinOp.eql 3 (Operand.tmp 12) (Operand.const (Value.int IntKind.i64 (Int.ofNat 0))) 3, guard := none }]).seq
            (IC.cond (Operand.tmp 13) ((IC.ops [{ dst := some 4, op := Op.assign (Operand.const (Value.int IntKind.i64 (Int.ofNat 0))), guard := none }]).seq IC.ret) IC.skip)).seq
        ((IC.ops
              [{ dst := some 14, op := Op.move (Operand.tmp 5), guard := none },
                { dst := some 15, op := Op.binOp BinOp.sub 3 (Operand.tmp 14) (Operand.const (Value.int IntKind.i64 (Int.ofNat 1))) 3, guard := none },
                { dst := some 16, op := Op.move (Operand.tmp 0), guard := none }, { dst := some 17, op := Op.move (Operand.tmp 0), guard := none },
                { dst := some 18, op := Op.unOp UnOp.neg 3 (Operand.tmp 17), guard := none },
                { dst := some 19, op := Op.call { callee := Callee.builtin Builtin.max, args := { toList := [Operand.tmp 16, Operand.tmp 18] }, argTypes := { toList := [3, 3] } }, guard := none },
                { dst := some 20, op := Op.binOp BinOp.mul 3 (Operand.tmp 15) (Operand.tmp 19) 3, guard := none }, { dst := some 21, op := Op.move (Operand.tmp 1), guard := none },
                { dst := some 22, op := Op.move (Operand.tmp 5), guard := none },
                { dst := some 23, op := Op.binOp BinOp.sub 3 (Operand.tmp 22) (Operand.const (Value.int IntKind.i64 (Int.ofNat 1))) 3, guard := none },
                { dst := some 24, op := Op.binOp BinOp.mul 3 (Operand.tmp 21) (Operand.tmp 23) 3, guard := none }, { dst := some 25, op := Op.move (Operand.tmp 5), guard := none },
                { dst := some 26, op := Op.binOp BinOp.mul 3 (Operand.tmp 24) (Operand.tmp 25) 3, guard := none },
                { dst := some 27, op := Op.binOp BinOp.quo 3 (Operand.tmp 26) (Operand.const (Value.int IntKind.i64 (Int.ofNat 2))) 3, guard := none },
                { dst := some 28, op := Op.binOp BinOp.sub 3 (Operand.tmp 20) (Operand.tmp 27) 3, guard := none }, { dst := some 6, op := Op.assign (Operand.tmp 28), guard := none }]).seq
          (((IC.ops
                    [{ dst := some 29, op := Op.move (Operand.tmp 0), guard := none },
                      { dst := some 30, op := Op.binOp BinOp.lss 3 (Operand.tmp 29) (Operand.const (Value.int IntKind.i64 (Int.ofNat 0))) 3, guard := none }]).seq
                (IC.cond (Operand.tmp 30)
                  ((IC.ops
                        [{ dst := some 31, op := Op.move (Operand.tmp 6), guard := none }, { dst := some 32, op := Op.unOp UnOp.neg 3 (Operand.tmp 31), guard := none },
                          { dst := some 4, op := Op.assign (Operand.tmp 32), guard := none }]).seq
                    IC.ret)
                  IC.skip)).seq
            ((IC.ops [{ dst := some 33, op := Op.move (Operand.tmp 6), guard := none }, { dst := some 4, op := Op.assign (Operand.tmp 33), guard := none }]).seq IC.ret))))))
theorem ic47_eq : Tryd.f47.body.map comp = some ic47 := by kernel_rfl
theorem ic47_ok : Tryd.f47.body.map (okC Tryd.f47.ntmps) = some true := by kernel_rfl
theorem ic47_nm : (Tryd.f47.name != "runtime.NumGoroutine") = true := by kernel_rfl
@[simp] theorem ic47_n : Tryd.f47.ntmps = 34 := by kernel_rfl
@[simp] theorem ic47_r : Tryd.f47.results.toList = [ResultVar.tmp 4] := by kernel_rfl

def ic49 : IC :=
  (IC.ops [{ dst := some 6, op := Op.assign (Operand.const (Value.bool false)), guard := none }]).seq
  (IC.block 0
    (IC.block 1
        (((IC.ops
                  [{ dst := some 14, op := Op.move (Operand.tmp 2), guard := none }, { dst := some 15, op := Op.move (Operand.tmp 14), guard := none },
                    { dst := some 16, op := Op.move (Operand.tmp 0), guard := some (some 15, true) }, { dst := some 17, op := Op.move (Operand.tmp 1), guard := some (some 15, true) },
                    { dst := some 18, op := Op.binOp BinOp.eql 34 (Operand.tmp 16) (Operand.tmp 17) 34, guard := some (some 15, true) },
                    { dst := some 19, op := Op.pick (Operand.tmp 15) (Operand.tmp 18) (Operand.const (Value.bool false)), guard := none }]).seq
              (IC.cond (Operand.tmp 19) ((IC.ops [{ dst := some 6, op := Op.assign (Operand.const (Value.bool true)), guard := none }]).seq IC.ret) IC.skip)).seq
          (((IC.ops
                    [{ dst := some 21, op := Op.move (Operand.tmp 0), guard := none }, { dst := some 22, op := Op.typeAssert (Operand.tmp 21) 34 81 true, guard := none },
                      { dst := some 20, op := Op.move (Operand.tmp 22), guard := none }, { dst := some 23, op := Op.extract (Operand.tmp 20) 0, guard := none },
                      { dst := some 24, op := Op.extract (Operand.tmp 20) 1, guard := none }, { dst := some 7, op := Op.assign (Operand.tmp 23), guard := none },
                      { dst := some 8, op := Op.assign (Operand.tmp 24), guard := none }]).seq
                ((IC.ops
                      [{ dst := some 25, op := Op.move (Operand.tmp 8), guard := none }, { dst := some 26, op := Op.move (Operand.tmp 25), guard := none },
                        { dst := some 27, op := Op.move (Operand.tmp 7), guard := some (some 26, true) }, { dst := some 28, op := Op.move (Operand.tmp 1), guard := some (some 26, true) },
                        { dst := some 29, op := Op.call { callee := Callee.invoke (Operand.tmp 27) "Is", args := { toList := [Operand.tmp 28] }, argTypes := { toList := [34] } },
                          guard := some (some 26, true) },
                        { dst := some 30, op := Op.pick (Operand.tmp 26) (Operand.tmp 29) (Operand.const (Value.bool false)), guard := none }]).seq
                  (IC.cond (Operand.tmp 30) ((IC.ops [{ dst := some 6, op := Op.assign (Operand.const (Value.bool true)), guard := none }]).seq IC.ret) IC.skip))).seq
            ((IC.ops [{ dst := some 31, op := Op.move (Operand.tmp 0), guard := none }]).seq
              (IC.block 2
                ((IC.ops
                      [{ dst := some 32, op := Op.typeAssert (Operand.tmp 31) 34 84 true, guard := none }, { dst := some 33, op := Op.extract (Operand.tmp 32) 1, guard := none },
                        { dst := some 34, op := Op.extract (Operand.tmp 32) 0, guard := none }]).seq
                  (IC.cond (Operand.tmp 33)
                    ((IC.ops [{ dst := some 9, op := Op.assign (Operand.tmp 34), guard := none }]).seq
                      ((IC.ops
                            [{ dst := some 35, op := Op.move (Operand.tmp 9), guard := none },
                              { dst := some 36, op := Op.call { callee := Callee.invoke (Operand.tmp 35) "Unwrap", args := { toList := [] }, argTypes := { toList := [] } }, guard := none },
                              { dst := some 0, op := Op.assign (Operand.tmp 36), guard := none }]).seq
                        ((IC.ops
                              [{ dst := some 37, op := Op.move (Operand.tmp 0), guard := none },
                                { dst := some 38, op := Op.binOp BinOp.eql 34 (Operand.tmp 37) (Operand.const Value.nilIface) 34, guard := none }]).seq
                          (IC.cond (Operand.tmp 38) ((IC.ops [{ dst := some 6, op := Op.assign (Operand.const (Value.bool false)), guard := none }]).seq IC.ret) IC.skip))))
                    ((IC.ops
                          [{ dst := some 39, op := Op.typeAssert (Operand.tmp 31) 34 86 true, guard := none }, { dst := some 40, op := Op.extract (Operand.tmp 39) 1, guard := none },
                            { dst := some 41, op := Op.extract (Operand.tmp 39) 0, guard := none }]).seq
                      (IC.cond (Operand.tmp 40)
                        ((IC.ops [{ dst := some 10, op := Op.assign (Operand.tmp 41), guard := none }]).seq
                          (((IC.ops
                                    [{ dst := some 42, op := Op.move (Operand.tmp 10), guard := none },
                                      { dst := some 43, op := Op.call { callee := Callee.invoke (Operand.tmp 42) "Unwrap", args := { toList := [] }, argTypes := { toList := [] } }, guard := none },
                                      { dst := some 44, op := Op.call { callee := Callee.builtin Builtin.len, args := { toList := [Operand.tmp 43] }, argTypes := { toList := [87] } }, guard := none },
                                      { dst := some 45, op := Op.move (Operand.const (Value.int IntKind.i64 (Int.ofNat 0))), guard := none }]).seq
                                (IC.block 3
                                  ((IC.ops [{ dst := some 46, op := Op.binOp BinOp.lss 3 (Operand.tmp 45) (Operand.tmp 44) 3, guard := none }]).seq
                                      ((IC.cond (Operand.tmp 46) IC.skip (IC.exit 3)).seq
                                        ((IC.block 4
                                              ((IC.ops
                                                    [{ dst := some 47, op := Op.indexAddr 87 (Operand.tmp 43) (Operand.tmp 45), guard := none },
                                                      { dst := some 48, op := Op.load 34 (Operand.tmp 47), guard := none }, { dst := some 12, op := Op.assign (Operand.tmp 48), guard := none }]).seq
                                                ((IC.ops
                                                      [{ dst := some 49, op := Op.move (Operand.tmp 12), guard := none }, { dst := some 50, op := Op.move (Operand.tmp 1), guard := none },
                                                        { dst := some 51, op := Op.move (Operand.tmp 2), guard := none },
                                                        { dst := some 52,
                                                          op :=
                                                            Op.call
                                                              { callee := Callee.value (Operand.func 49), args := { toList := [Operand.tmp 49, Operand.tmp 50, Operand.tmp 51] },
                                                                argTypes := { toList := [34, 34, 4] } },
                                                          guard := none }]).seq
                                                  (IC.cond (Operand.tmp 52) ((IC.ops [{ dst := some 6, op := Op.assign (Operand.const (Value.bool true)), guard := none }]).seq IC.ret) IC.skip)))).seq
                                          (IC.ops
                                            [{ dst := some 53, op := Op.binOp BinOp.add 3 (Operand.tmp 45) (Operand.const (Value.int IntKind.i64 (Int.ofNat 1))) 3, guard := none },
                                              { dst := some 45, op := Op.move (Operand.tmp 53), guard := none }])))).loop)).seq
                            ((IC.ops [{ dst := some 6, op := Op.assign (Operand.const (Value.bool false)), guard := none }]).seq IC.ret)))
                        ((IC.ops [{ dst := some 13, op := Op.assign (Operand.tmp 31), guard := none }]).seq
                          ((IC.ops [{ dst := some 6, op := Op.assign (Operand.const (Value.bool false)), guard := none }]).seq IC.ret))))))))))).loop)
theorem ic49_eq : Tryd.f49.body.map comp = some ic49 := by kernel_rfl
theorem ic49_ok : Tryd.f49.body.map (okC Tryd.f49.ntmps) = some true := by kernel_rfl
theorem ic49_nm : (Tryd.f49.name != "runtime.NumGoroutine") = true := by kernel_rfl
@[simp] theorem ic49_n : Tryd.f49.ntmps = 54 := by kernel_rfl
@[simp] theorem ic49_r : Tryd.f49.results.toList = [ResultVar.tmp 6] := by kernel_rfl

def ic53 : IC :=
  (IC.ops [{ dst := some 6, op := Op.box 71 (Operand.tmp 2), guard := none }, { dst := some 8, op := Op.assign (Operand.const (Value.bool false)), guard := none }]).seq
  (IC.block 0
    (IC.block 1
        (((IC.ops
                  [{ dst := some 16, op := Op.move (Operand.tmp 0), guard := none },
                    { dst := some 17, op := Op.call { callee := Callee.value (Operand.func 48), args := { toList := [Operand.tmp 16] }, argTypes := { toList := [20] } }, guard := none },
                    { dst := some 18, op := Op.move (Operand.tmp 3), guard := none },
                    { dst := some 19, op := Op.call { callee := Callee.invoke (Operand.tmp 17) "AssignableTo", args := { toList := [Operand.tmp 18] }, argTypes := { toList := [65] } },
                      guard := none }]).seq
              (IC.cond (Operand.tmp 19)
                ((IC.ops
                      [{ dst := some 20, op := Op.load 71 (Operand.tmp 6), guard := none },
                        { dst := some 21, op := Op.call { callee := Callee.value (Operand.func 56), args := { toList := [Operand.tmp 20] }, argTypes := { toList := [71] } }, guard := none },
                        { dst := some 22, op := Op.move (Operand.tmp 0), guard := none },
                        { dst := some 23, op := Op.call { callee := Callee.value (Operand.func 50), args := { toList := [Operand.tmp 22] }, argTypes := { toList := [20] } }, guard := none },
                        { dst := some 24, op := Op.call { callee := Callee.value (Operand.func 57), args := { toList := [Operand.tmp 21, Operand.tmp 23] }, argTypes := { toList := [71, 71] } },
                          guard := none }]).seq
                  ((IC.ops [{ dst := some 8, op := Op.assign (Operand.const (Value.bool true)), guard := none }]).seq IC.ret))
                IC.skip)).seq
          (((IC.ops
                    [{ dst := some 26, op := Op.move (Operand.tmp 0), guard := none }, { dst := some 27, op := Op.typeAssert (Operand.tmp 26) 34 91 true, guard := none },
                      { dst := some 25, op := Op.move (Operand.tmp 27), guard := none }, { dst := some 28, op := Op.extract (Operand.tmp 25) 0, guard := none },
                      { dst := some 29, op := Op.extract (Operand.tmp 25) 1, guard := none }, { dst := some 9, op := Op.assign (Operand.tmp 28), guard := none },
                      { dst := some 10, op := Op.assign (Operand.tmp 29), guard := none }]).seq
                ((IC.ops
                      [{ dst := some 30, op := Op.move (Operand.tmp 10), guard := none }, { dst := some 31, op := Op.move (Operand.tmp 30), guard := none },
                        { dst := some 32, op := Op.move (Operand.tmp 9), guard := some (some 31, true) }, { dst := some 33, op := Op.move (Operand.tmp 1), guard := some (some 31, true) },
                        { dst := some 34, op := Op.call { callee := Callee.invoke (Operand.tmp 32) "As", args := { toList := [Operand.tmp 33] }, argTypes := { toList := [20] } },
                          guard := some (some 31, true) },
                        { dst := some 35, op := Op.pick (Operand.tmp 31) (Operand.tmp 34) (Operand.const (Value.bool false)), guard := none }]).seq
                  (IC.cond (Operand.tmp 35) ((IC.ops [{ dst := some 8, op := Op.assign (Operand.const (Value.bool true)), guard := none }]).seq IC.ret) IC.skip))).seq
            ((IC.ops [{ dst := some 36, op := Op.move (Operand.tmp 0), guard := none }]).seq
              (IC.block 2
                ((IC.ops
                      [{ dst := some 37, op := Op.typeAssert (Operand.tmp 36) 34 84 true, guard := none }, { dst := some 38, op := Op.extract (Operand.tmp 37) 1, guard := none },
                        { dst := some 39, op := Op.extract (Operand.tmp 37) 0, guard := none }]).seq
                  (IC.cond (Operand.tmp 38)
                    ((IC.ops [{ dst := some 11, op := Op.assign (Operand.tmp 39), guard := none }]).seq
                      ((IC.ops
                            [{ dst := some 40, op := Op.move (Operand.tmp 11), guard := none },
                              { dst := some 41, op := Op.call { callee := Callee.invoke (Operand.tmp 40) "Unwrap", args := { toList := [] }, argTypes := { toList := [] } }, guard := none },
                              { dst := some 0, op := Op.assign (Operand.tmp 41), guard := none }]).seq
                        ((IC.ops
                              [{ dst := some 42, op := Op.move (Operand.tmp 0), guard := none },
                                { dst := some 43, op := Op.binOp BinOp.eql 34 (Operand.tmp 42) (Operand.const Value.nilIface) 34, guard := none }]).seq
                          (IC.cond (Operand.tmp 43) ((IC.ops [{ dst := some 8, op := Op.assign (Operand.const (Value.bool false)), guard := none }]).seq IC.ret) IC.skip))))
                    ((IC.ops
                          [{ dst := some 44, op := Op.typeAssert (Operand.tmp 36) 34 86 true, guard := none }, { dst := some 45, op := Op.extract (Operand.tmp 44) 1, guard := none },
                            { dst := some 46, op := Op.extract (Operand.tmp 44) 0, guard := none }]).seq
                      (IC.cond (Operand.tmp 45)
                        ((IC.ops [{ dst := some 12, op := Op.assign (Operand.tmp 46), guard := none }]).seq
                          (((IC.ops
                                    [{ dst := some 47, op := Op.move (Operand.tmp 12), guard := none },
                                      { dst := some 48, op := Op.call { callee := Callee.invoke (Operand.tmp 47) "Unwrap", args := { toList := [] }, argTypes := { toList := [] } }, guard := none },
                                      { dst := some 49, op := Op.call { callee := Callee.builtin Builtin.len, args := { toList := [Operand.tmp 48] }, argTypes := { toList := [87] } }, guard := none },
                                      { dst := some 50, op := Op.move (Operand.const (Value.int IntKind.i64 (Int.ofNat 0))), guard := none }]).seq
                                (IC.block 3
                                  ((IC.ops [{ dst := some 51, op := Op.binOp BinOp.lss 3 (Operand.tmp 50) (Operand.tmp 49) 3, guard := none }]).seq
                                      ((IC.cond (Operand.tmp 51) IC.skip (IC.exit 3)).seq
                                        ((IC.block 4
                                              ((IC.ops
                                                    [{ dst := some 52, op := Op.indexAddr 87 (Operand.tmp 48) (Operand.tmp 50), guard := none },
                                                      { dst := some 53, op := Op.load 34 (Operand.tmp 52), guard := none }, { dst := some 14, op := Op.assign (Operand.tmp 53), guard := none }]).seq
                                                (((IC.ops
                                                          [{ dst := some 54, op := Op.move (Operand.tmp 14), guard := none },
                                                            { dst := some 55, op := Op.binOp BinOp.eql 34 (Operand.tmp 54) (Operand.const Value.nilIface) 34, guard := none }]).seq
                                                      (IC.cond (Operand.tmp 55) (IC.exit 4) IC.skip)).seq
                                                  ((IC.ops
                                                        [{ dst := some 56, op := Op.move (Operand.tmp 14), guard := none }, { dst := some 57, op := Op.move (Operand.tmp 1), guard := none },
                                                          { dst := some 58, op := Op.load 71 (Operand.tmp 6), guard := none }, { dst := some 59, op := Op.move (Operand.tmp 3), guard := none },
                                                          { dst := some 60,
                                                            op :=
                                                              Op.call
                                                                { callee := Callee.value (Operand.func 53), args := { toList := [Operand.tmp 56, Operand.tmp 57, Operand.tmp 58, Operand.tmp 59] },
                                                                  argTypes := { toList := [34, 20, 71, 65] } },
                                                            guard := none }]).seq
                                                    (IC.cond (Operand.tmp 60) ((IC.ops [{ dst := some 8, op := Op.assign (Operand.const (Value.bool true)), guard := none }]).seq IC.ret)
                                                      IC.skip))))).seq
                                          (IC.ops
                                            [{ dst := some 61, op := Op.binOp BinOp.add 3 (Operand.tmp 50) (Operand.const (Value.int IntKind.i64 (Int.ofNat 1))) 3, guard := none },
                                              { dst := some 50, op := Op.move (Operand.tmp 61), guard := none }])))).loop)).seq
                            ((IC.ops [{ dst := some 8, op := Op.assign (Operand.const (Value.bool false)), guard := none }]).seq IC.ret)))
                        ((IC.ops [{ dst := some 15, op := Op.assign (Operand.tmp 36), guard := none }]).seq
                          ((IC.ops [{ dst := some 8, op := Op.assign (Operand.const (Value.bool false)), guard := none }]).seq IC.ret))))))))))).loop)
theorem ic53_eq : Tryd.f53.body.map comp = some ic53 := by kernel_rfl
theorem ic53_ok : Tryd.f53.body.map (okC Tryd.f53.ntmps) = some true := by kernel_rfl
theorem ic53_nm : (Tryd.f53.name != "runtime.NumGoroutine") = true := by kernel_rfl
@[simp] theorem ic53_n : Tryd.f53.ntmps = 62 := by kernel_rfl
@[simp] theorem ic53_r : Tryd.f53.results.toList = [ResultVar.tmp 8] := by kernel_rfl

def ic54 : IC :=
  (IC.ops [{ dst := some 4, op := Op.assign (Operand.const (Value.int IntKind.i64 (Int.ofNat 0))), guard := none }]).seq
  ((IC.block 0
        ((IC.ops
              [{ dst := some 6, op := Op.move (Operand.tmp 0), guard := none },
                { dst := some 7, op := Op.binOp BinOp.eql 3 (Operand.tmp 6) (Operand.const (Value.int IntKind.i64 (Int.ofNat 0))) 3, guard := none },
                { dst := some 5, op := Op.assign (Operand.tmp 7), guard := none }]).seq
          (IC.cond (Operand.tmp 5) ((IC.ops [{ dst := some 4, op := Op.assign (Operand.const (Value.int IntKind.i64 (Int.ofNat 0))), guard := none }]).seq IC.ret)
            ((IC.ops
                  [{ dst := some 9, op := Op.move (Operand.tmp 1), guard := none },
                    { dst := some 10, op := Op.binOp BinOp.lss 3 (Operand.tmp 9) (Operand.const (Value.int IntKind.i64 (Int.ofNat 1))) 3, guard := none },
                    { dst := some 8, op := Op.assign (Operand.tmp 10), guard := none }]).seq
              (IC.cond (Operand.tmp 8) ((IC.ops [{ dst := some 4, op := Op.assign (Operand.const (Value.int IntKind.i64 (Int.negSucc 0))), guard := none }]).seq IC.ret) IC.skip))))).seq
    ((IC.ops
          [{ dst := some 11, op := Op.move (Operand.tmp 0), guard := none }, { dst := some 12, op := Op.move (Operand.tmp 0), guard := none },
            { dst := some 13, op := Op.unOp UnOp.neg 3 (Operand.tmp 12), guard := none },
            { dst := some 14, op := Op.call { callee := Callee.builtin Builtin.max, args := { toList := [Operand.tmp 11, Operand.tmp 13] }, argTypes := { toList := [3, 3] } }, guard := none },
            { dst := some 15, op := Op.move (Operand.tmp 1), guard := none },
            { dst := some 16, op := Op.call { callee := Callee.value (Operand.func 26), args := { toList := [Operand.tmp 14, Operand.tmp 15] }, argTypes := { toList := [3, 3] } }, guard := none },
            { dst := some 4, op := Op.assign (Operand.tmp 16), guard := none }]).seq
      IC.ret))
theorem ic54_eq : Tryd.f54.body.map comp = some ic54 := by kernel_rfl
theorem ic54_ok : Tryd.f54.body.map (okC Tryd.f54.ntmps) = some true := by kernel_rfl
theorem ic54_nm : (Tryd.f54.name != "runtime.NumGoroutine") = true := by kernel_rfl
@[simp] theorem ic54_n : Tryd.f54.ntmps = 17 := by kernel_rfl
@[simp] theorem ic54_r : Tryd.f54.results.toList = [ResultVar.tmp 4] := by kernel_rfl

def ic55 : IC :=
  (IC.ops [{ dst := some 4, op := Op.assign (Operand.const (Value.int IntKind.i64 (Int.ofNat 0))), guard := none }]).seq
  (((IC.ops
            [{ dst := some 6, op := Op.move (Operand.tmp 1), guard := none },
              { dst := some 7, op := Op.binOp BinOp.lss 3 (Operand.tmp 6) (Operand.const (Value.int IntKind.i64 (Int.ofNat 1))) 3, guard := none }]).seq
        (IC.cond (Operand.tmp 7) ((IC.ops [{ dst := some 4, op := Op.assign (Operand.const (Value.int IntKind.i64 (Int.ofNat 0))), guard := none }]).seq IC.ret) IC.skip)).seq
    ((IC.ops
          [{ dst := some 8, op := Op.move (Operand.tmp 0), guard := none }, { dst := some 9, op := Op.move (Operand.tmp 1), guard := none },
            { dst := some 10, op := Op.binOp BinOp.quo 3 (Operand.tmp 8) (Operand.tmp 9) 3, guard := none }, { dst := some 5, op := Op.assign (Operand.tmp 10), guard := none }]).seq
      (((IC.ops
                [{ dst := some 11, op := Op.move (Operand.tmp 0), guard := none }, { dst := some 12, op := Op.move (Operand.tmp 1), guard := none },
                  { dst := some 13, op := Op.binOp BinOp.rem 3 (Operand.tmp 11) (Operand.tmp 12) 3, guard := none },
                  { dst := some 14, op := Op.binOp BinOp.lss 3 (Operand.tmp 13) (Operand.const (Value.int IntKind.i64 (Int.ofNat 0))) 3, guard := none }]).seq
            (IC.cond (Operand.tmp 14)
              (IC.ops
                [{ dst := some 15, op := Op.move (Operand.tmp 5), guard := none },
                  { dst := some 16, op := Op.binOp BinOp.sub 3 (Operand.tmp 15) (Operand.const (Value.int IntKind.i64 (Int.ofNat 1))) 3, guard := none },
                  { dst := some 5, op := Op.assign (Operand.tmp 16), guard := none }])
              IC.skip)).seq
        ((IC.ops [{ dst := some 17, op := Op.move (Operand.tmp 5), guard := none }, { dst := some 4, op := Op.assign (Operand.tmp 17), guard := none }]).seq IC.ret))))
theorem ic55_eq : Tryd.f55.body.map comp = some ic55 := by kernel_rfl
theorem ic55_ok : Tryd.f55.body.map (okC Tryd.f55.ntmps) = some true := by kernel_rfl
theorem ic55_nm : (Tryd.f55.name != "runtime.NumGoroutine") = true := by kernel_rfl
@[simp] theorem ic55_n : Tryd.f55.ntmps = 18 := by kernel_rfl
@[simp] theorem ic55_r : Tryd.f55.results.toList = [ResultVar.tmp 4] := by kernel_rfl

-- f75: no body
-- f76: no body
def ic77 : IC :=
  (IC.ops [{ dst := some 2, op := Op.box 52 (Operand.tmp 0), guard := none }, { dst := some 4, op := Op.assign (Operand.const (Value.bool false)), guard := none }]).seq
  ((IC.ops
        [{ dst := some 8, op := Op.move (Operand.tmp 1), guard := none },
          { dst := some 9, op := Op.call { callee := Callee.value (Operand.func 78), args := { toList := [Operand.tmp 8] }, argTypes := { toList := [34] } }, guard := none },
          { dst := some 7, op := Op.move (Operand.tmp 9), guard := none }, { dst := some 10, op := Op.extract (Operand.tmp 7) 0, guard := none },
          { dst := some 11, op := Op.extract (Operand.tmp 7) 1, guard := none }, { dst := some 5, op := Op.alloc 50, guard := none },
          { dst := none, op := Op.store 50 (Operand.tmp 5) (Operand.tmp 10), guard := none }, { dst := some 6, op := Op.assign (Operand.tmp 11), guard := none }]).seq
    ((IC.ops
          [{ dst := some 12, op := Op.move (Operand.tmp 6), guard := none }, { dst := some 13, op := Op.move (Operand.tmp 12), guard := none },
            { dst := some 14, op := Op.fieldAddr 50 (Operand.tmp 5) 0, guard := some (some 13, true) }, { dst := some 15, op := Op.load 38 (Operand.tmp 14), guard := some (some 13, true) },
            { dst := some 16, op := Op.fieldAddr 52 (Operand.tmp 2) 0, guard := some (some 13, true) }, { dst := some 17, op := Op.fieldAddr 50 (Operand.tmp 16) 0, guard := some (some 13, true) },
            { dst := some 18, op := Op.load 38 (Operand.tmp 17), guard := some (some 13, true) },
            { dst := some 19, op := Op.binOp BinOp.eql 38 (Operand.tmp 15) (Operand.tmp 18) 38, guard := some (some 13, true) },
            { dst := some 20, op := Op.pick (Operand.tmp 13) (Operand.tmp 19) (Operand.const (Value.bool false)), guard := none },
            { dst := some 4, op := Op.assign (Operand.tmp 20), guard := none }]).seq
      IC.ret))
theorem ic77_eq : Tryd.f77.body.map comp = some ic77 := by kernel_rfl
theorem ic77_ok : Tryd.f77.body.map (okC Tryd.f77.ntmps) = some true := by kernel_rfl
theorem ic77_nm : (Tryd.f77.name != "runtime.NumGoroutine") = true := by kernel_rfl
@[simp] theorem ic77_n : Tryd.f77.ntmps = 21 := by kernel_rfl
@[simp] theorem ic77_r : Tryd.f77.results.toList = [ResultVar.tmp 4] := by kernel_rfl

def ic78 : IC :=
  (IC.ops [{ dst := some 2, op := Op.alloc 50, guard := none }, { dst := some 3, op := Op.assign (Operand.const (Value.bool false)), guard := none }]).seq
  ((IC.ops [{ dst := some 4, op := Op.alloc 52, guard := none }]).seq
    (((IC.ops
              [{ dst := some 5, op := Op.move (Operand.tmp 0), guard := none }, { dst := some 6, op := Op.makeInterface 112 (Operand.tmp 4), guard := none },
                { dst := some 7, op := Op.call { callee := Callee.value (Operand.func 23), args := { toList := [Operand.tmp 5, Operand.tmp 6] }, argTypes := { toList := [34, 20] } }, guard := none },
                { dst := some 8, op := Op.unOp UnOp.not 4 (Operand.tmp 7), guard := none }]).seq
          (IC.cond (Operand.tmp 8)
            ((IC.ops
                  [{ dst := some 9, op := Op.build 50 { toList := [] }, guard := none }, { dst := none, op := Op.store 50 (Operand.tmp 2) (Operand.tmp 9), guard := none },
                    { dst := some 3, op := Op.assign (Operand.const (Value.bool false)), guard := none }]).seq
              IC.ret)
            IC.skip)).seq
      ((IC.ops
            [{ dst := some 10, op := Op.fieldAddr 52 (Operand.tmp 4) 0, guard := none }, { dst := some 11, op := Op.load 50 (Operand.tmp 10), guard := none },
              { dst := none, op := Op.store 50 (Operand.tmp 2) (Operand.tmp 11), guard := none }, { dst := some 3, op := Op.assign (Operand.const (Value.bool true)), guard := none }]).seq
        IC.ret)))
theorem ic78_eq : Tryd.f78.body.map comp = some ic78 := by kernel_rfl
theorem ic78_ok : Tryd.f78.body.map (okC Tryd.f78.ntmps) = some true := by kernel_rfl
theorem ic78_nm : (Tryd.f78.name != "runtime.NumGoroutine") = true := by kernel_rfl
@[simp] theorem ic78_n : Tryd.f78.ntmps = 12 := by kernel_rfl
@[simp] theorem ic78_r : Tryd.f78.results.toList = [ResultVar.cell 2 50, ResultVar.tmp 3] := by kernel_rfl

-- f79: no body
def ic80 : IC :=
  (IC.ops [{ dst := some 1, op := Op.box 54 (Operand.tmp 0), guard := none }, { dst := some 2, op := Op.assign (Operand.const Value.nilIface), guard := none }]).seq
  ((IC.ops
        [{ dst := some 3, op := Op.fieldAddr 54 (Operand.tmp 1) 1, guard := none }, { dst := some 4, op := Op.load 34 (Operand.tmp 3), guard := none },
          { dst := some 2, op := Op.assign (Operand.tmp 4), guard := none }]).seq
    IC.ret)
theorem ic80_eq : Tryd.f80.body.map comp = some ic80 := by kernel_rfl
theorem ic80_ok : Tryd.f80.body.map (okC Tryd.f80.ntmps) = some true := by kernel_rfl
theorem ic80_nm : (Tryd.f80.name != "runtime.NumGoroutine") = true := by kernel_rfl
@[simp] theorem ic80_n : Tryd.f80.ntmps = 5 := by kernel_rfl
@[simp] theorem ic80_r : Tryd.f80.results.toList = [ResultVar.tmp 2] := by kernel_rfl

-- f96: no body

end Go.Proofs.YtdnigflmcmammaaDoor
