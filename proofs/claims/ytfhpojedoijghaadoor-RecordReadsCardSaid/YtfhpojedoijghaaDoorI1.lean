/- Contracts of functions of the seat's program, and what follows of them: I1. Conditions are in each statement. -/
import Derived.Test.YtfhpojedoijghaaDoorRows
import Derived.Test.YtfhpojedoijghaaDoorV3
set_option linter.unusedSimpArgs false
set_option linter.unusedVariables false
namespace Go.Proofs.YtfhpojedoijghaaDoor
open Go Go.Proofs Go.Vm

def ic3 : IC :=
  (IC.ops [{ dst := some 2, op := Op.assign (Operand.const (Value.bool false)), guard := none }]).seq
  (((IC.ops
            [{ dst := some 11, op := Op.call { callee := Callee.value (Operand.func 5), args := { toList := [] }, argTypes := { toList := [] } }, guard := none },
              { dst := some 12, op := Op.unOp UnOp.not 4 (Operand.tmp 11), guard := none }, { dst := some 13, op := Op.move (Operand.tmp 12), guard := none },
              { dst := some 14, op := Op.move (Operand.tmp 0), guard := some (some 13, false) },
              { dst := some 15, op := Op.call { callee := Callee.builtin Builtin.len, args := { toList := [Operand.tmp 14] }, argTypes := { toList := [22] } }, guard := some (some 13, false) },
              { dst := some 16, op := Op.binOp BinOp.gtr 3 (Operand.tmp 15) (Operand.const (Value.int IntKind.i64 (Int.ofNat 300))) 3, guard := some (some 13, false) },
              { dst := some 17, op := Op.pick (Operand.tmp 13) (Operand.const (Value.bool true)) (Operand.tmp 16), guard := none }]).seq
        (IC.cond (Operand.tmp 17)
          ((IC.ops
                [{ dst := some 18, op := Op.call { callee := Callee.value (Operand.func 5), args := { toList := [] }, argTypes := { toList := [] } }, guard := none },
                  { dst := some 2, op := Op.assign (Operand.tmp 18), guard := none }]).seq
            IC.ret)
          IC.skip)).seq
    ((IC.ops
          [{ dst := some 19, op := Op.move (Operand.tmp 0), guard := none },
            { dst := some 20, op := Op.call { callee := Callee.value (Operand.func 6), args := { toList := [Operand.tmp 19] }, argTypes := { toList := [22] } }, guard := none },
            { dst := some 3, op := Op.assign (Operand.tmp 20), guard := none }]).seq
      ((IC.ops
            [{ dst := some 21, op := Op.buildSlice 22 0 { toList := [] }, guard := none }, { dst := some 22, op := Op.move (Operand.tmp 0), guard := none },
              { dst := some 23, op := Op.call { callee := Callee.builtin Builtin.append, args := { toList := [Operand.tmp 21, Operand.tmp 22] }, argTypes := { toList := [22, 22] } }, guard := none },
              { dst := some 24, op := Op.move (Operand.tmp 3), guard := none },
              { dst := some 25, op := Op.binOp BinOp.shr 3 (Operand.tmp 24) (Operand.const (Value.int IntKind.u64 (Int.ofNat 8))) 25, guard := none },
              { dst := some 26, op := Op.convert 3 5 (Operand.tmp 25), guard := none }, { dst := some 27, op := Op.move (Operand.tmp 3), guard := none },
              { dst := some 28, op := Op.convert 3 5 (Operand.tmp 27), guard := none },
              { dst := some 29, op := Op.buildSlice 22 2 { toList := [(0, Operand.tmp 26), (1, Operand.tmp 28)] }, guard := none },
              { dst := some 30, op := Op.call { callee := Callee.builtin Builtin.append, args := { toList := [Operand.tmp 23, Operand.tmp 29] }, argTypes := { toList := [22, 22] } }, guard := none },
              { dst := some 4, op := Op.assign (Operand.tmp 30), guard := none }]).seq
        (((IC.ops
                  [{ dst := some 31, op := Op.move (Operand.tmp 3), guard := none }, { dst := some 32, op := Op.move (Operand.tmp 0), guard := none },
                    { dst := some 33, op := Op.call { callee := Callee.value (Operand.func 7), args := { toList := [Operand.tmp 32] }, argTypes := { toList := [22] } }, guard := none },
                    { dst := some 34, op := Op.binOp BinOp.neq 3 (Operand.tmp 31) (Operand.tmp 33) 3, guard := none }]).seq
              (IC.cond (Operand.tmp 34) ((IC.ops [{ dst := some 2, op := Op.assign (Operand.const (Value.bool false)), guard := none }]).seq IC.ret) IC.skip)).seq
          (((IC.ops
                    [{ dst := some 35, op := Op.move (Operand.tmp 0), guard := none }, { dst := some 36, op := Op.move (Operand.tmp 4), guard := none },
                      { dst := some 37, op := Op.buildSlice 26 2 { toList := [(0, Operand.tmp 35), (1, Operand.tmp 36)] }, guard := none },
                      { dst := some 38, op := Op.call { callee := Callee.builtin Builtin.len, args := { toList := [Operand.tmp 37] }, argTypes := { toList := [26] } }, guard := none },
                      { dst := some 39, op := Op.move (Operand.const (Value.int IntKind.i64 (Int.ofNat 0))), guard := none }]).seq
                (IC.block 0
                  ((IC.ops [{ dst := some 40, op := Op.binOp BinOp.lss 3 (Operand.tmp 39) (Operand.tmp 38) 3, guard := none }]).seq
                      ((IC.cond (Operand.tmp 40) IC.skip (IC.exit 0)).seq
                        ((IC.block 1
                              ((IC.ops
                                    [{ dst := some 41, op := Op.indexAddr 26 (Operand.tmp 37) (Operand.tmp 39), guard := none }, { dst := some 42, op := Op.load 22 (Operand.tmp 41), guard := none },
                                      { dst := some 6, op := Op.assign (Operand.tmp 42), guard := none }]).seq
                                ((IC.ops
                                      [{ dst := some 44, op := Op.move (Operand.tmp 6), guard := none },
                                        { dst := some 45, op := Op.call { callee := Callee.value (Operand.func 8), args := { toList := [Operand.tmp 44] }, argTypes := { toList := [22] } },
                                          guard := none },
                                        { dst := some 43, op := Op.move (Operand.tmp 45), guard := none }, { dst := some 46, op := Op.extract (Operand.tmp 43) 0, guard := none },
                                        { dst := some 47, op := Op.extract (Operand.tmp 43) 1, guard := none }, { dst := some 7, op := Op.assign (Operand.tmp 46), guard := none },
                                        { dst := some 8, op := Op.assign (Operand.tmp 47), guard := none }]).seq
                                  ((IC.ops
                                        [{ dst := some 49, op := Op.move (Operand.tmp 6), guard := none },
                                          { dst := some 50, op := Op.call { callee := Callee.value (Operand.func 9), args := { toList := [Operand.tmp 49] }, argTypes := { toList := [22] } },
                                            guard := none },
                                          { dst := some 48, op := Op.move (Operand.tmp 50), guard := none }, { dst := some 51, op := Op.extract (Operand.tmp 48) 0, guard := none },
                                          { dst := some 52, op := Op.extract (Operand.tmp 48) 1, guard := none }, { dst := some 9, op := Op.assign (Operand.tmp 51), guard := none },
                                          { dst := some 10, op := Op.assign (Operand.tmp 52), guard := none }]).seq
                                    ((IC.ops
                                          [{ dst := some 53, op := Op.move (Operand.tmp 7), guard := none }, { dst := some 54, op := Op.move (Operand.tmp 9), guard := none },
                                            { dst := some 55,
                                              op := Op.call { callee := Callee.value (Operand.func 10), args := { toList := [Operand.tmp 53, Operand.tmp 54] }, argTypes := { toList := [27, 27] } },
                                              guard := none },
                                            { dst := some 56, op := Op.unOp UnOp.not 4 (Operand.tmp 55), guard := none }, { dst := some 57, op := Op.move (Operand.tmp 56), guard := none },
                                            { dst := some 58, op := Op.move (Operand.tmp 8), guard := some (some 57, false) },
                                            { dst := some 59, op := Op.move (Operand.tmp 10), guard := some (some 57, false) },
                                            { dst := some 60,
                                              op := Op.call { callee := Callee.value (Operand.func 11), args := { toList := [Operand.tmp 58, Operand.tmp 59] }, argTypes := { toList := [29, 9] } },
                                              guard := some (some 57, false) },
                                            { dst := some 61, op := Op.unOp UnOp.not 4 (Operand.tmp 60), guard := some (some 57, false) },
                                            { dst := some 62, op := Op.pick (Operand.tmp 57) (Operand.const (Value.bool true)) (Operand.tmp 61), guard := none }]).seq
                                      (IC.cond (Operand.tmp 62) ((IC.ops [{ dst := some 2, op := Op.assign (Operand.const (Value.bool false)), guard := none }]).seq IC.ret) IC.skip)))))).seq
                          (IC.ops
                            [{ dst := some 63, op := Op.binOp BinOp.add 3 (Operand.tmp 39) (Operand.const (Value.int IntKind.i64 (Int.ofNat 1))) 3, guard := none },
                              { dst := some 39, op := Op.move (Operand.tmp 63), guard := none }])))).loop)).seq
            ((IC.ops [{ dst := some 2, op := Op.assign (Operand.const (Value.bool true)), guard := none }]).seq IC.ret))))))
theorem ic3_eq : Tryd.f3.body.map comp = some ic3 := by kernel_rfl
theorem ic3_ok : Tryd.f3.body.map (okC Tryd.f3.ntmps) = some true := by kernel_rfl
theorem ic3_nm : (Tryd.f3.name != "runtime.NumGoroutine") = true := by kernel_rfl
@[simp] theorem ic3_n : Tryd.f3.ntmps = 64 := by kernel_rfl
@[simp] theorem ic3_r : Tryd.f3.results.toList = [ResultVar.tmp 2] := by kernel_rfl

def ic4 : IC :=
  (IC.ops [{ dst := some 2, op := Op.assign (Operand.const (Value.bool false)), guard := none }]).seq
  (((IC.ops
            [{ dst := some 7, op := Op.call { callee := Callee.value (Operand.func 5), args := { toList := [] }, argTypes := { toList := [] } }, guard := none },
              { dst := some 8, op := Op.unOp UnOp.not 4 (Operand.tmp 7), guard := none }, { dst := some 9, op := Op.move (Operand.tmp 8), guard := none },
              { dst := some 10, op := Op.move (Operand.tmp 0), guard := some (some 9, false) },
              { dst := some 11, op := Op.call { callee := Callee.builtin Builtin.len, args := { toList := [Operand.tmp 10] }, argTypes := { toList := [27] } }, guard := some (some 9, false) },
              { dst := some 12, op := Op.binOp BinOp.gtr 3 (Operand.tmp 11) (Operand.const (Value.int IntKind.i64 (Int.ofNat 30))) 3, guard := some (some 9, false) },
              { dst := some 13, op := Op.pick (Operand.tmp 9) (Operand.const (Value.bool true)) (Operand.tmp 12), guard := none }]).seq
        (IC.cond (Operand.tmp 13)
          ((IC.ops
                [{ dst := some 14, op := Op.call { callee := Callee.value (Operand.func 5), args := { toList := [] }, argTypes := { toList := [] } }, guard := none },
                  { dst := some 2, op := Op.assign (Operand.tmp 14), guard := none }]).seq
            IC.ret)
          IC.skip)).seq
    ((IC.ops
          [{ dst := some 16, op := Op.move (Operand.tmp 0), guard := none },
            { dst := some 17, op := Op.call { callee := Callee.value (Operand.func 12), args := { toList := [Operand.tmp 16] }, argTypes := { toList := [27] } }, guard := none },
            { dst := some 15, op := Op.move (Operand.tmp 17), guard := none }, { dst := some 18, op := Op.extract (Operand.tmp 15) 0, guard := none },
            { dst := some 19, op := Op.extract (Operand.tmp 15) 1, guard := none }, { dst := some 3, op := Op.assign (Operand.tmp 18), guard := none },
            { dst := some 4, op := Op.assign (Operand.tmp 19), guard := none }]).seq
      ((IC.ops
            [{ dst := some 21, op := Op.move (Operand.tmp 0), guard := none },
              { dst := some 22, op := Op.call { callee := Callee.value (Operand.func 13), args := { toList := [Operand.tmp 21] }, argTypes := { toList := [27] } }, guard := none },
              { dst := some 20, op := Op.move (Operand.tmp 22), guard := none }, { dst := some 23, op := Op.extract (Operand.tmp 20) 0, guard := none },
              { dst := some 24, op := Op.extract (Operand.tmp 20) 1, guard := none }, { dst := some 5, op := Op.assign (Operand.tmp 23), guard := none },
              { dst := some 6, op := Op.assign (Operand.tmp 24), guard := none }]).seq
        (((IC.ops [{ dst := some 25, op := Op.move (Operand.tmp 6), guard := none }, { dst := some 26, op := Op.unOp UnOp.not 4 (Operand.tmp 25), guard := none }]).seq
              (IC.cond (Operand.tmp 26)
                ((IC.ops
                      [{ dst := some 27, op := Op.move (Operand.tmp 3), guard := none },
                        { dst := some 28, op := Op.call { callee := Callee.builtin Builtin.len, args := { toList := [Operand.tmp 27] }, argTypes := { toList := [22] } }, guard := none },
                        { dst := some 29, op := Op.binOp BinOp.eql 3 (Operand.tmp 28) (Operand.const (Value.int IntKind.i64 (Int.ofNat 0))) 3, guard := none },
                        { dst := some 30, op := Op.move (Operand.tmp 29), guard := none }, { dst := some 31, op := Op.move (Operand.tmp 4), guard := some (some 30, true) },
                        { dst := some 32,
                          op :=
                            Op.call
                              { callee := Callee.value (Operand.func 11),
                                args :=
                                  {
                                    toList :=
                                      [Operand.tmp 31,
                                        Operand.const
                                          (Value.string
                                            {
                                              data :=
                                                {
                                                  toList :=
                                                    [119, 114, 105,
                                                      116, 101] } })] },
                                argTypes := { toList := [29, 9] } },
                          guard := some (some 30, true) },
                        { dst := some 33, op := Op.pick (Operand.tmp 30) (Operand.tmp 32) (Operand.const (Value.bool false)), guard := none },
                        { dst := some 2, op := Op.assign (Operand.tmp 33), guard := none }]).seq
                  IC.ret)
                IC.skip)).seq
          ((IC.ops
                [{ dst := some 34, op := Op.move (Operand.tmp 4), guard := none }, { dst := some 35, op := Op.binOp BinOp.eql 29 (Operand.tmp 34) (Operand.const Value.nilIface) 29, guard := none },
                  { dst := some 36, op := Op.move (Operand.tmp 35), guard := none }, { dst := some 37, op := Op.move (Operand.tmp 3), guard := some (some 36, true) },
                  { dst := some 38, op := Op.move (Operand.tmp 5), guard := some (some 36, true) },
                  { dst := some 39, op := Op.call { callee := Callee.value (Operand.func 14), args := { toList := [Operand.tmp 37, Operand.tmp 38] }, argTypes := { toList := [22, 22] } },
                    guard := some (some 36, true) },
                  { dst := some 40, op := Op.pick (Operand.tmp 36) (Operand.tmp 39) (Operand.const (Value.bool false)), guard := none },
                  { dst := some 2, op := Op.assign (Operand.tmp 40), guard := none }]).seq
            IC.ret)))))
theorem ic4_eq : Tryd.f4.body.map comp = some ic4 := by kernel_rfl
theorem ic4_ok : Tryd.f4.body.map (okC Tryd.f4.ntmps) = some true := by kernel_rfl
theorem ic4_nm : (Tryd.f4.name != "runtime.NumGoroutine") = true := by kernel_rfl
@[simp] theorem ic4_n : Tryd.f4.ntmps = 41 := by kernel_rfl
@[simp] theorem ic4_r : Tryd.f4.results.toList = [ResultVar.tmp 2] := by kernel_rfl

def ic5 : IC :=
  (IC.ops [{ dst := some 0, op := Op.assign (Operand.const (Value.bool false)), guard := none }]).seq
  ((IC.ops
        [{ dst := some 6, op := Op.build 45 { toList := [(0, Operand.const (Value.int IntKind.i64 (Int.ofNat 6))), (1, Operand.const (Value.int IntKind.i64 (Int.ofNat 5)))] }, guard := none },
          { dst := some 7, op := Op.buildSlice 27 1 { toList := [(0, Operand.tmp 6)] }, guard := none },
          { dst := some 8, op := Op.call { callee := Callee.value (Operand.func 12), args := { toList := [Operand.tmp 7] }, argTypes := { toList := [27] } }, guard := none },
          { dst := some 5, op := Op.move (Operand.tmp 8), guard := none }, { dst := some 9, op := Op.extract (Operand.tmp 5) 0, guard := none },
          { dst := some 10, op := Op.extract (Operand.tmp 5) 1, guard := none }, { dst := some 1, op := Op.assign (Operand.tmp 9), guard := none },
          { dst := some 2, op := Op.assign (Operand.tmp 10), guard := none }]).seq
    ((IC.ops
          [{ dst := some 12, op := Op.move (Operand.tmp 1), guard := none },
            { dst := some 13, op := Op.call { callee := Callee.value (Operand.func 8), args := { toList := [Operand.tmp 12] }, argTypes := { toList := [22] } }, guard := none },
            { dst := some 11, op := Op.move (Operand.tmp 13), guard := none }, { dst := some 14, op := Op.extract (Operand.tmp 11) 0, guard := none },
            { dst := some 15, op := Op.extract (Operand.tmp 11) 1, guard := none }, { dst := some 3, op := Op.assign (Operand.tmp 14), guard := none },
            { dst := some 4, op := Op.assign (Operand.tmp 15), guard := none }]).seq
      ((IC.ops
            [{ dst := some 16, op := Op.move (Operand.tmp 2), guard := none }, { dst := some 17, op := Op.binOp BinOp.eql 29 (Operand.tmp 16) (Operand.const Value.nilIface) 29, guard := none },
              { dst := some 18, op := Op.move (Operand.tmp 17), guard := none }, { dst := some 19, op := Op.move (Operand.tmp 4), guard := some (some 18, true) },
              { dst := some 20, op := Op.binOp BinOp.eql 29 (Operand.tmp 19) (Operand.const Value.nilIface) 29, guard := some (some 18, true) },
              { dst := some 21, op := Op.pick (Operand.tmp 18) (Operand.tmp 20) (Operand.const (Value.bool false)), guard := none }, { dst := some 22, op := Op.move (Operand.tmp 21), guard := none },
              { dst := some 23, op := Op.move (Operand.tmp 1), guard := some (some 22, true) },
              { dst := some 24, op := Op.call { callee := Callee.builtin Builtin.len, args := { toList := [Operand.tmp 23] }, argTypes := { toList := [22] } }, guard := some (some 22, true) },
              { dst := some 25, op := Op.binOp BinOp.eql 3 (Operand.tmp 24) (Operand.const (Value.int IntKind.i64 (Int.ofNat 10))) 3, guard := some (some 22, true) },
              { dst := some 26, op := Op.pick (Operand.tmp 22) (Operand.tmp 25) (Operand.const (Value.bool false)), guard := none }, { dst := some 27, op := Op.move (Operand.tmp 26), guard := none },
              { dst := some 28, op := Op.move (Operand.tmp 3), guard := some (some 27, true) },
              { dst := some 29, op := Op.call { callee := Callee.builtin Builtin.len, args := { toList := [Operand.tmp 28] }, argTypes := { toList := [27] } }, guard := some (some 27, true) },
              { dst := some 30, op := Op.binOp BinOp.eql 3 (Operand.tmp 29) (Operand.const (Value.int IntKind.i64 (Int.ofNat 1))) 3, guard := some (some 27, true) },
              { dst := some 31, op := Op.pick (Operand.tmp 27) (Operand.tmp 30) (Operand.const (Value.bool false)), guard := none }, { dst := some 32, op := Op.move (Operand.tmp 31), guard := none },
              { dst := some 33, op := Op.move (Operand.tmp 3), guard := some (some 32, true) },
              { dst := some 34, op := Op.indexAddr 27 (Operand.tmp 33) (Operand.const (Value.int IntKind.i64 (Int.ofNat 0))), guard := some (some 32, true) },
              { dst := some 35, op := Op.fieldAddr 45 (Operand.tmp 34) 0, guard := some (some 32, true) }, { dst := some 36, op := Op.load 43 (Operand.tmp 35), guard := some (some 32, true) },
              { dst := some 37, op := Op.binOp BinOp.eql 43 (Operand.tmp 36) (Operand.const (Value.int IntKind.i64 (Int.ofNat 6))) 43, guard := some (some 32, true) },
              { dst := some 38, op := Op.pick (Operand.tmp 32) (Operand.tmp 37) (Operand.const (Value.bool false)), guard := none }, { dst := some 39, op := Op.move (Operand.tmp 38), guard := none },
              { dst := some 40,
                op :=
                  Op.buildSlice 22 9
                    {
                      toList :=
                        [(0, Operand.const (Value.int IntKind.u8 (Int.ofNat 49))), (1, Operand.const (Value.int IntKind.u8 (Int.ofNat 50))), (2, Operand.const (Value.int IntKind.u8 (Int.ofNat 51))),
                          (3, Operand.const (Value.int IntKind.u8 (Int.ofNat 52))), (4, Operand.const (Value.int IntKind.u8 (Int.ofNat 53))), (5, Operand.const (Value.int IntKind.u8 (Int.ofNat 54))),
                          (6, Operand.const (Value.int IntKind.u8 (Int.ofNat 55))), (7, Operand.const (Value.int IntKind.u8 (Int.ofNat 56))),
                          (8, Operand.const (Value.int IntKind.u8 (Int.ofNat 57)))] },
                guard := some (some 39, true) },
              { dst := some 41, op := Op.convert 22 22 (Operand.tmp 40), guard := some (some 39, true) },
              { dst := some 42, op := Op.call { callee := Callee.value (Operand.func 6), args := { toList := [Operand.tmp 41] }, argTypes := { toList := [22] } }, guard := some (some 39, true) },
              { dst := some 43, op := Op.binOp BinOp.eql 3 (Operand.tmp 42) (Operand.const (Value.int IntKind.i64 (Int.ofNat 10673))) 3, guard := some (some 39, true) },
              { dst := some 44, op := Op.pick (Operand.tmp 39) (Operand.tmp 43) (Operand.const (Value.bool false)), guard := none },
              { dst := some 0, op := Op.assign (Operand.tmp 44), guard := none }]).seq
        IC.ret)))
theorem ic5_eq : Tryd.f5.body.map comp = some ic5 := by kernel_rfl
theorem ic5_ok : Tryd.f5.body.map (okC Tryd.f5.ntmps) = some true := by kernel_rfl
theorem ic5_nm : (Tryd.f5.name != "runtime.NumGoroutine") = true := by kernel_rfl
@[simp] theorem ic5_n : Tryd.f5.ntmps = 45 := by kernel_rfl
@[simp] theorem ic5_r : Tryd.f5.results.toList = [ResultVar.tmp 0] := by kernel_rfl

def ic6 : IC :=
  (IC.ops [{ dst := some 2, op := Op.assign (Operand.const (Value.int IntKind.i64 (Int.ofNat 0))), guard := none }]).seq
  ((IC.ops [{ dst := some 3, op := Op.assign (Operand.const (Value.int IntKind.u16 (Int.ofNat 65535))), guard := none }]).seq
    (((IC.ops
              [{ dst := some 8, op := Op.move (Operand.tmp 0), guard := none },
                { dst := some 9, op := Op.call { callee := Callee.builtin Builtin.len, args := { toList := [Operand.tmp 8] }, argTypes := { toList := [22] } }, guard := none },
                { dst := some 10, op := Op.move (Operand.const (Value.int IntKind.i64 (Int.ofNat 0))), guard := none }]).seq
          (IC.block 0
            ((IC.ops [{ dst := some 11, op := Op.binOp BinOp.lss 3 (Operand.tmp 10) (Operand.tmp 9) 3, guard := none }]).seq
                ((IC.cond (Operand.tmp 11) IC.skip (IC.exit 0)).seq
                  ((IC.block 1
                        ((IC.ops
                              [{ dst := some 12, op := Op.indexAddr 22 (Operand.tmp 8) (Operand.tmp 10), guard := none }, { dst := some 13, op := Op.load 5 (Operand.tmp 12), guard := none },
                                { dst := some 5, op := Op.assign (Operand.tmp 13), guard := none }]).seq
                          ((IC.ops
                                  [{ dst := some 14, op := Op.move (Operand.tmp 3), guard := none }, { dst := some 15, op := Op.move (Operand.tmp 5), guard := none },
                                    { dst := some 16, op := Op.convert 5 46 (Operand.tmp 15), guard := none },
                                    { dst := some 17, op := Op.binOp BinOp.shl 46 (Operand.tmp 16) (Operand.const (Value.int IntKind.u64 (Int.ofNat 8))) 25, guard := none },
                                    { dst := some 18, op := Op.binOp BinOp.xor 46 (Operand.tmp 14) (Operand.tmp 17) 46, guard := none },
                                    { dst := some 3, op := Op.assign (Operand.tmp 18), guard := none }]).seq
                              ((IC.ops [{ dst := some 6, op := Op.assign (Operand.const (Value.int IntKind.i64 (Int.ofNat 0))), guard := none }]).seq
                                ((IC.label 0).seq
                                  ((IC.ops
                                        [{ dst := some 19, op := Op.move (Operand.tmp 3), guard := none },
                                          { dst := some 20, op := Op.binOp BinOp.shr 46 (Operand.tmp 19) (Operand.const (Value.int IntKind.u64 (Int.ofNat 15))) 25, guard := none },
                                          { dst := some 7, op := Op.assign (Operand.tmp 20), guard := none }]).seq
                                    ((IC.ops
                                          [{ dst := some 21, op := Op.move (Operand.tmp 3), guard := none },
                                            { dst := some 22, op := Op.binOp BinOp.shl 46 (Operand.tmp 21) (Operand.const (Value.int IntKind.u64 (Int.ofNat 1))) 25, guard := none },
                                            { dst := some 3, op := Op.assign (Operand.tmp 22), guard := none }]).seq
                                      (((IC.ops
                                                [{ dst := some 23, op := Op.move (Operand.tmp 7), guard := none },
                                                  { dst := some 24, op := Op.binOp BinOp.eql 46 (Operand.tmp 23) (Operand.const (Value.int IntKind.u16 (Int.ofNat 1))) 46, guard := none }]).seq
                                            (IC.cond (Operand.tmp 24)
                                              (IC.ops
                                                [{ dst := some 25, op := Op.move (Operand.tmp 3), guard := none },
                                                  { dst := some 26, op := Op.binOp BinOp.xor 46 (Operand.tmp 25) (Operand.const (Value.int IntKind.u16 (Int.ofNat 4129))) 46, guard := none },
                                                  { dst := some 3, op := Op.assign (Operand.tmp 26), guard := none }])
                                              IC.skip)).seq
                                        ((IC.ops
                                              [{ dst := some 27, op := Op.move (Operand.tmp 6), guard := none },
                                                { dst := some 28, op := Op.binOp BinOp.add 3 (Operand.tmp 27) (Operand.const (Value.int IntKind.i64 (Int.ofNat 1))) 3, guard := none },
                                                { dst := some 6, op := Op.assign (Operand.tmp 28), guard := none }]).seq
                                          ((IC.ops
                                                [{ dst := some 29, op := Op.move (Operand.tmp 6), guard := none },
                                                  { dst := some 30, op := Op.binOp BinOp.lss 3 (Operand.tmp 29) (Operand.const (Value.int IntKind.i64 (Int.ofNat 8))) 3, guard := none }]).seq
                                            (IC.cond (Operand.tmp 30) (IC.goto 0) IC.skip))))))))).scope)).seq
                    (IC.ops
                      [{ dst := some 31, op := Op.binOp BinOp.add 3 (Operand.tmp 10) (Operand.const (Value.int IntKind.i64 (Int.ofNat 1))) 3, guard := none },
                        { dst := some 10, op := Op.move (Operand.tmp 31), guard := none }])))).loop)).seq
      ((IC.ops
            [{ dst := some 32, op := Op.move (Operand.tmp 3), guard := none }, { dst := some 33, op := Op.convert 46 3 (Operand.tmp 32), guard := none },
              { dst := some 2, op := Op.assign (Operand.tmp 33), guard := none }]).seq
        IC.ret)))
theorem ic6_eq : Tryd.f6.body.map comp = some ic6 := by kernel_rfl
theorem ic6_ok : Tryd.f6.body.map (okC Tryd.f6.ntmps) = some true := by kernel_rfl
theorem ic6_nm : (Tryd.f6.name != "runtime.NumGoroutine") = true := by kernel_rfl
@[simp] theorem ic6_n : Tryd.f6.ntmps = 34 := by kernel_rfl
@[simp] theorem ic6_r : Tryd.f6.results.toList = [ResultVar.tmp 2] := by kernel_rfl

def ic7 : IC :=
  (IC.ops [{ dst := some 2, op := Op.assign (Operand.const (Value.int IntKind.i64 (Int.ofNat 0))), guard := none }]).seq
  ((IC.ops [{ dst := some 3, op := Op.assign (Operand.const (Value.int IntKind.i64 (Int.ofNat 65535))), guard := none }]).seq
    (((IC.ops
              [{ dst := some 8, op := Op.move (Operand.tmp 0), guard := none },
                { dst := some 9, op := Op.call { callee := Callee.builtin Builtin.len, args := { toList := [Operand.tmp 8] }, argTypes := { toList := [22] } }, guard := none },
                { dst := some 10, op := Op.move (Operand.const (Value.int IntKind.i64 (Int.ofNat 0))), guard := none }]).seq
          (IC.block 0
            ((IC.ops [{ dst := some 11, op := Op.binOp BinOp.lss 3 (Operand.tmp 10) (Operand.tmp 9) 3, guard := none }]).seq
                ((IC.cond (Operand.tmp 11) IC.skip (IC.exit 0)).seq
                  ((IC.block 1
                        ((IC.ops [{ dst := some 12, op := Op.move (Operand.tmp 10), guard := none }, { dst := some 4, op := Op.assign (Operand.tmp 12), guard := none }]).seq
                          ((IC.ops
                                [{ dst := some 13, op := Op.move (Operand.tmp 0), guard := none }, { dst := some 14, op := Op.move (Operand.tmp 4), guard := none },
                                  { dst := some 15, op := Op.indexAddr 22 (Operand.tmp 13) (Operand.tmp 14), guard := none }, { dst := some 16, op := Op.load 5 (Operand.tmp 15), guard := none },
                                  { dst := some 17, op := Op.convert 5 3 (Operand.tmp 16), guard := none }, { dst := some 5, op := Op.assign (Operand.tmp 17), guard := none }]).seq
                            ((IC.ops [{ dst := some 6, op := Op.assign (Operand.const (Value.int IntKind.i64 (Int.ofNat 0))), guard := none }]).seq
                              (IC.block 2
                                (((IC.ops
                                            [{ dst := some 18, op := Op.move (Operand.tmp 6), guard := none },
                                              { dst := some 19, op := Op.binOp BinOp.lss 3 (Operand.tmp 18) (Operand.const (Value.int IntKind.i64 (Int.ofNat 8))) 3, guard := none }]).seq
                                        (IC.cond (Operand.tmp 19) IC.skip (IC.exit 2))).seq
                                    ((IC.block 3
                                          ((IC.ops
                                                [{ dst := some 22, op := Op.move (Operand.tmp 3), guard := none },
                                                  { dst := some 23, op := Op.binOp BinOp.quo 3 (Operand.tmp 22) (Operand.const (Value.int IntKind.i64 (Int.ofNat 32768))) 3, guard := none },
                                                  { dst := some 24, op := Op.move (Operand.tmp 5), guard := none },
                                                  { dst := some 25, op := Op.binOp BinOp.quo 3 (Operand.tmp 24) (Operand.const (Value.int IntKind.i64 (Int.ofNat 128))) 3, guard := none },
                                                  { dst := some 26, op := Op.binOp BinOp.rem 3 (Operand.tmp 25) (Operand.const (Value.int IntKind.i64 (Int.ofNat 2))) 3, guard := none },
                                                  { dst := some 27, op := Op.binOp BinOp.neq 3 (Operand.tmp 23) (Operand.tmp 26) 3, guard := none },
                                                  { dst := some 7, op := Op.assign (Operand.tmp 27), guard := none }]).seq
                                            ((IC.ops
                                                  [{ dst := some 28, op := Op.move (Operand.tmp 3), guard := none },
                                                    { dst := some 29, op := Op.binOp BinOp.mul 3 (Operand.const (Value.int IntKind.i64 (Int.ofNat 2))) (Operand.tmp 28) 3, guard := none },
                                                    { dst := some 30, op := Op.binOp BinOp.rem 3 (Operand.tmp 29) (Operand.const (Value.int IntKind.i64 (Int.ofNat 65536))) 3, guard := none },
                                                    { dst := some 3, op := Op.assign (Operand.tmp 30), guard := none }]).seq
                                              (((IC.ops [{ dst := some 31, op := Op.move (Operand.tmp 7), guard := none }]).seq
                                                    (IC.cond (Operand.tmp 31)
                                                      (IC.ops
                                                        [{ dst := some 32, op := Op.move (Operand.tmp 3), guard := none },
                                                          { dst := some 33, op := Op.binOp BinOp.xor 3 (Operand.tmp 32) (Operand.const (Value.int IntKind.i64 (Int.ofNat 4129))) 3, guard := none },
                                                          { dst := some 3, op := Op.assign (Operand.tmp 33), guard := none }])
                                                      IC.skip)).seq
                                                (IC.ops
                                                  [{ dst := some 34, op := Op.move (Operand.tmp 5), guard := none },
                                                    { dst := some 35, op := Op.binOp BinOp.mul 3 (Operand.const (Value.int IntKind.i64 (Int.ofNat 2))) (Operand.tmp 34) 3, guard := none },
                                                    { dst := some 36, op := Op.binOp BinOp.rem 3 (Operand.tmp 35) (Operand.const (Value.int IntKind.i64 (Int.ofNat 256))) 3, guard := none },
                                                    { dst := some 5, op := Op.assign (Operand.tmp 36), guard := none }]))))).seq
                                      (IC.ops
                                        [{ dst := some 20, op := Op.move (Operand.tmp 6), guard := none },
                                          { dst := some 21, op := Op.binOp BinOp.add 3 (Operand.tmp 20) (Operand.const (Value.int IntKind.i64 (Int.ofNat 1))) 3, guard := none },
                                          { dst := some 6, op := Op.assign (Operand.tmp 21), guard := none }]))).loop))))).seq
                    (IC.ops
                      [{ dst := some 37, op := Op.binOp BinOp.add 3 (Operand.tmp 10) (Operand.const (Value.int IntKind.i64 (Int.ofNat 1))) 3, guard := none },
                        { dst := some 10, op := Op.move (Operand.tmp 37), guard := none }])))).loop)).seq
      ((IC.ops [{ dst := some 38, op := Op.move (Operand.tmp 3), guard := none }, { dst := some 2, op := Op.assign (Operand.tmp 38), guard := none }]).seq IC.ret)))
theorem ic7_eq : Tryd.f7.body.map comp = some ic7 := by kernel_rfl
theorem ic7_ok : Tryd.f7.body.map (okC Tryd.f7.ntmps) = some true := by kernel_rfl
theorem ic7_nm : (Tryd.f7.name != "runtime.NumGoroutine") = true := by kernel_rfl
@[simp] theorem ic7_n : Tryd.f7.ntmps = 39 := by kernel_rfl
@[simp] theorem ic7_r : Tryd.f7.results.toList = [ResultVar.tmp 2] := by kernel_rfl

def ic8 : IC :=
  (IC.ops [{ dst := some 2, op := Op.assign (Operand.const (Value.slice none 0 0)), guard := none }, { dst := some 3, op := Op.assign (Operand.const Value.nilIface), guard := none }]).seq
  ((IC.block 0
        ((IC.ops
              [{ dst := some 7, op := Op.move (Operand.tmp 0), guard := none },
                { dst := some 8, op := Op.call { callee := Callee.builtin Builtin.len, args := { toList := [Operand.tmp 7] }, argTypes := { toList := [22] } }, guard := none },
                { dst := some 9, op := Op.binOp BinOp.lss 3 (Operand.tmp 8) (Operand.const (Value.int IntKind.i64 (Int.ofNat 4))) 3, guard := none },
                { dst := some 10, op := Op.move (Operand.tmp 9), guard := none }, { dst := some 11, op := Op.move (Operand.tmp 0), guard := some (some 10, false) },
                { dst := some 12, op := Op.call { callee := Callee.builtin Builtin.len, args := { toList := [Operand.tmp 11] }, argTypes := { toList := [22] } }, guard := some (some 10, false) },
                { dst := some 13, op := Op.move (Operand.tmp 0), guard := some (some 10, false) },
                { dst := some 14, op := Op.indexAddr 22 (Operand.tmp 13) (Operand.const (Value.int IntKind.i64 (Int.ofNat 1))), guard := some (some 10, false) },
                { dst := some 15, op := Op.load 5 (Operand.tmp 14), guard := some (some 10, false) }, { dst := some 16, op := Op.convert 5 3 (Operand.tmp 15), guard := some (some 10, false) },
                { dst := some 17, op := Op.binOp BinOp.mul 3 (Operand.const (Value.int IntKind.i64 (Int.ofNat 6))) (Operand.tmp 16) 3, guard := some (some 10, false) },
                { dst := some 18, op := Op.binOp BinOp.add 3 (Operand.const (Value.int IntKind.i64 (Int.ofNat 2))) (Operand.tmp 17) 3, guard := some (some 10, false) },
                { dst := some 19, op := Op.binOp BinOp.add 3 (Operand.tmp 18) (Operand.const (Value.int IntKind.i64 (Int.ofNat 2))) 3, guard := some (some 10, false) },
                { dst := some 20, op := Op.binOp BinOp.neq 3 (Operand.tmp 12) (Operand.tmp 19) 3, guard := some (some 10, false) },
                { dst := some 21, op := Op.pick (Operand.tmp 10) (Operand.const (Value.bool true)) (Operand.tmp 20), guard := none },
                { dst := some 6, op := Op.assign (Operand.tmp 21), guard := none }]).seq
          (IC.cond (Operand.tmp 6)
            ((IC.ops
                  [{ dst := some 22,
                      op :=
                        Op.call
                          { callee := Callee.value (Operand.func 15),
                            args :=
                              {
                                toList :=
                                  [Operand.const
                                      (Value.string
                                        {
                                          data :=
                                            {
                                              toList :=
                                                [108, 101, 110,
                                                  103, 116, 104] } })] },
                            argTypes := { toList := [9] } },
                      guard := none },
                    { dst := some 2, op := Op.assign (Operand.const (Value.slice none 0 0)), guard := none }, { dst := some 3, op := Op.assign (Operand.tmp 22), guard := none }]).seq
              IC.ret)
            ((IC.ops
                  [{ dst := some 24, op := Op.move (Operand.tmp 0), guard := none },
                    { dst := some 25, op := Op.call { callee := Callee.value (Operand.func 6), args := { toList := [Operand.tmp 24] }, argTypes := { toList := [22] } }, guard := none },
                    { dst := some 26, op := Op.binOp BinOp.neq 3 (Operand.tmp 25) (Operand.const (Value.int IntKind.i64 (Int.ofNat 0))) 3, guard := none },
                    { dst := some 23, op := Op.assign (Operand.tmp 26), guard := none }]).seq
              (IC.cond (Operand.tmp 23)
                ((IC.ops
                      [{ dst := some 27,
                          op :=
                            Op.call
                              { callee := Callee.value (Operand.func 15),
                                args :=
                                  {
                                    toList :=
                                      [Operand.const
                                          (Value.string
                                            { data := { toList := [115, 117, 109] } })] },
                                argTypes := { toList := [9] } },
                          guard := none },
                        { dst := some 2, op := Op.assign (Operand.const (Value.slice none 0 0)), guard := none }, { dst := some 3, op := Op.assign (Operand.tmp 27), guard := none }]).seq
                  IC.ret)
                ((IC.ops
                      [{ dst := some 29, op := Op.move (Operand.tmp 0), guard := none },
                        { dst := some 30, op := Op.indexAddr 22 (Operand.tmp 29) (Operand.const (Value.int IntKind.i64 (Int.ofNat 0))), guard := none },
                        { dst := some 31, op := Op.load 5 (Operand.tmp 30), guard := none },
                        { dst := some 32, op := Op.binOp BinOp.neq 5 (Operand.tmp 31) (Operand.const (Value.int IntKind.u8 (Int.ofNat 76))) 5, guard := none },
                        { dst := some 28, op := Op.assign (Operand.tmp 32), guard := none }]).seq
                  (IC.cond (Operand.tmp 28)
                    ((IC.ops
                          [{ dst := some 33,
                              op :=
                                Op.call
                                  { callee := Callee.value (Operand.func 15),
                                    args :=
                                      {
                                        toList :=
                                          [Operand.const
                                              (Value.string
                                                {
                                                  data :=
                                                    {
                                                      toList :=
                                                        [109, 97, 114,
                                                          107] } })] },
                                    argTypes := { toList := [9] } },
                              guard := none },
                            { dst := some 2, op := Op.assign (Operand.const (Value.slice none 0 0)), guard := none }, { dst := some 3, op := Op.assign (Operand.tmp 33), guard := none }]).seq
                      IC.ret)
                    IC.skip))))))).seq
    ((IC.ops [{ dst := some 4, op := Op.alloc 27, guard := none }]).seq
      (((IC.ops
                [{ dst := some 34, op := Op.move (Operand.tmp 0), guard := none }, { dst := some 35, op := Op.move (Operand.tmp 0), guard := none },
                  { dst := some 36, op := Op.call { callee := Callee.builtin Builtin.len, args := { toList := [Operand.tmp 35] }, argTypes := { toList := [22] } }, guard := none },
                  { dst := some 37, op := Op.binOp BinOp.sub 3 (Operand.tmp 36) (Operand.const (Value.int IntKind.i64 (Int.ofNat 2))) 3, guard := none },
                  { dst := some 38, op := Op.slice 22 (Operand.tmp 34) (some (Operand.const (Value.int IntKind.i64 (Int.ofNat 2)))) (some (Operand.tmp 37)) none, guard := none },
                  { dst := some 39,
                    op :=
                      Op.call
                        { callee := Callee.value (Operand.func 16), args := { toList := [Operand.tmp 38, Operand.const (Value.int IntKind.i64 (Int.ofNat 6))] }, argTypes := { toList := [22, 3] } },
                    guard := none }]).seq
            (IC.block 1
              (IC.range (Operand.tmp 39) { toList := [40] } (IC.ops [{ dst := some 5, op := Op.assign (Operand.tmp 40), guard := none }])
                (IC.block 2
                  (IC.opsD
                    [{ dst := some 41, op := Op.load 27 (Operand.tmp 4), guard := none }, { dst := some 42, op := Op.move (Operand.tmp 5), guard := none },
                      { dst := some 43, op := Op.call { callee := Callee.value (Operand.func 17), args := { toList := [Operand.tmp 42] }, argTypes := { toList := [22] } }, guard := none, bef := [1] },
                      { dst := some 44, op := Op.buildSlice 27 1 { toList := [(0, Operand.tmp 43)] }, guard := none, bef := [2, 1] },
                      { dst := some 45, op := Op.call { callee := Callee.builtin Builtin.append, args := { toList := [Operand.tmp 41, Operand.tmp 44] }, argTypes := { toList := [27, 27] } },
                        guard := none, bef := [0, 3, 2, 1] },
                      { dst := none, op := Op.store 27 (Operand.tmp 4) (Operand.tmp 45), guard := none, bef := [4, 0, 3, 2, 1] }]))))).seq
        (((IC.ops
                  [{ dst := some 46, op := Op.load 27 (Operand.tmp 4), guard := none },
                    { dst := some 47, op := Op.call { callee := Callee.value (Operand.func 18), args := { toList := [Operand.tmp 46] }, argTypes := { toList := [27] } }, guard := none },
                    { dst := some 48, op := Op.unOp UnOp.not 4 (Operand.tmp 47), guard := none }]).seq
              (IC.cond (Operand.tmp 48)
                ((IC.ops
                      [{ dst := some 49,
                          op :=
                            Op.call
                              { callee := Callee.value (Operand.func 15),
                                args :=
                                  {
                                    toList :=
                                      [Operand.const
                                          (Value.string
                                            {
                                              data :=
                                                {
                                                  toList :=
                                                    [102, 97, 117,
                                                      108, 116] } })] },
                                argTypes := { toList := [9] } },
                          guard := none },
                        { dst := some 2, op := Op.assign (Operand.const (Value.slice none 0 0)), guard := none }, { dst := some 3, op := Op.assign (Operand.tmp 49), guard := none }]).seq
                  IC.ret)
                IC.skip)).seq
          ((IC.ops
                [{ dst := some 50, op := Op.load 27 (Operand.tmp 4), guard := none }, { dst := some 2, op := Op.assign (Operand.tmp 50), guard := none },
                  { dst := some 3, op := Op.assign (Operand.const Value.nilIface), guard := none }]).seq
            IC.ret)))))
theorem ic8_eq : Tryd.f8.body.map comp = some ic8 := by kernel_rfl
theorem ic8_ok : Tryd.f8.body.map (okC Tryd.f8.ntmps) = some true := by kernel_rfl
theorem ic8_nm : (Tryd.f8.name != "runtime.NumGoroutine") = true := by kernel_rfl
@[simp] theorem ic8_n : Tryd.f8.ntmps = 51 := by kernel_rfl
@[simp] theorem ic8_r : Tryd.f8.results.toList = [ResultVar.tmp 2, ResultVar.tmp 3] := by kernel_rfl

def ic9 : IC :=
  (IC.ops
      [{ dst := some 2, op := Op.assign (Operand.const (Value.slice none 0 0)), guard := none },
        { dst := some 3, op := Op.assign (Operand.const (Value.string { data := { toList := [] } })), guard := none }]).seq
  (((IC.ops
            [{ dst := some 9, op := Op.move (Operand.tmp 0), guard := none },
              { dst := some 10, op := Op.call { callee := Callee.builtin Builtin.len, args := { toList := [Operand.tmp 9] }, argTypes := { toList := [22] } }, guard := none },
              { dst := some 11, op := Op.binOp BinOp.lss 3 (Operand.tmp 10) (Operand.const (Value.int IntKind.i64 (Int.ofNat 4))) 3, guard := none },
              { dst := some 12, op := Op.move (Operand.tmp 11), guard := none }, { dst := some 13, op := Op.move (Operand.tmp 0), guard := some (some 12, false) },
              { dst := some 14, op := Op.call { callee := Callee.builtin Builtin.len, args := { toList := [Operand.tmp 13] }, argTypes := { toList := [22] } }, guard := some (some 12, false) },
              { dst := some 15, op := Op.move (Operand.tmp 0), guard := some (some 12, false) },
              { dst := some 16, op := Op.indexAddr 22 (Operand.tmp 15) (Operand.const (Value.int IntKind.i64 (Int.ofNat 1))), guard := some (some 12, false) },
              { dst := some 17, op := Op.load 5 (Operand.tmp 16), guard := some (some 12, false) }, { dst := some 18, op := Op.convert 5 3 (Operand.tmp 17), guard := some (some 12, false) },
              { dst := some 19, op := Op.binOp BinOp.mul 3 (Operand.const (Value.int IntKind.i64 (Int.ofNat 6))) (Operand.tmp 18) 3, guard := some (some 12, false) },
              { dst := some 20, op := Op.binOp BinOp.add 3 (Operand.const (Value.int IntKind.i64 (Int.ofNat 4))) (Operand.tmp 19) 3, guard := some (some 12, false) },
              { dst := some 21, op := Op.binOp BinOp.neq 3 (Operand.tmp 14) (Operand.tmp 20) 3, guard := some (some 12, false) },
              { dst := some 22, op := Op.pick (Operand.tmp 12) (Operand.const (Value.bool true)) (Operand.tmp 21), guard := none }]).seq
        (IC.cond (Operand.tmp 22)
          ((IC.ops
                [{ dst := some 2, op := Op.assign (Operand.const (Value.slice none 0 0)), guard := none },
                  { dst := some 3,
                    op :=
                      Op.assign
                        (Operand.const
                          (Value.string
                            {
                              data :=
                                {
                                  toList :=
                                    [108, 101, 110, 103,
                                      116, 104] } })),
                    guard := none }]).seq
            IC.ret)
          IC.skip)).seq
    ((IC.ops
          [{ dst := some 23, op := Op.move (Operand.tmp 0), guard := none },
            { dst := some 24, op := Op.call { callee := Callee.builtin Builtin.len, args := { toList := [Operand.tmp 23] }, argTypes := { toList := [22] } }, guard := none },
            { dst := some 25, op := Op.binOp BinOp.sub 3 (Operand.tmp 24) (Operand.const (Value.int IntKind.i64 (Int.ofNat 2))) 3, guard := none },
            { dst := some 4, op := Op.assign (Operand.tmp 25), guard := none }]).seq
      (((IC.opsD
                [{ dst := some 26, op := Op.move (Operand.tmp 0), guard := none }, { dst := some 27, op := Op.move (Operand.tmp 4), guard := none },
                  { dst := some 28, op := Op.slice 22 (Operand.tmp 26) none (some (Operand.tmp 27)) none, guard := none, bef := [0, 1] },
                  { dst := some 29, op := Op.call { callee := Callee.value (Operand.func 7), args := { toList := [Operand.tmp 28] }, argTypes := { toList := [22] } }, guard := none,
                    bef := [2, 0, 1] },
                  { dst := some 30, op := Op.move (Operand.tmp 0), guard := none }, { dst := some 31, op := Op.move (Operand.tmp 4), guard := none },
                  { dst := some 32, op := Op.indexAddr 22 (Operand.tmp 30) (Operand.tmp 31), guard := none, bef := [4, 5] },
                  { dst := some 33, op := Op.load 5 (Operand.tmp 32), guard := none, bef := [6, 4, 5] }, { dst := some 34, op := Op.convert 5 3 (Operand.tmp 33), guard := none, bef := [7, 6, 4, 5] },
                  { dst := some 35, op := Op.binOp BinOp.mul 3 (Operand.const (Value.int IntKind.i64 (Int.ofNat 256))) (Operand.tmp 34) 3, guard := none, bef := [8, 7, 6, 4, 5] },
                  { dst := some 36, op := Op.move (Operand.tmp 0), guard := none }, { dst := some 37, op := Op.move (Operand.tmp 4), guard := none },
                  { dst := some 38, op := Op.binOp BinOp.add 3 (Operand.tmp 37) (Operand.const (Value.int IntKind.i64 (Int.ofNat 1))) 3, guard := none, bef := [11] },
                  { dst := some 39, op := Op.indexAddr 22 (Operand.tmp 36) (Operand.tmp 38), guard := none, bef := [10, 12, 11] },
                  { dst := some 40, op := Op.load 5 (Operand.tmp 39), guard := none, bef := [13, 10, 12, 11] },
                  { dst := some 41, op := Op.convert 5 3 (Operand.tmp 40), guard := none, bef := [14, 13, 10, 12, 11] },
                  { dst := some 42, op := Op.binOp BinOp.add 3 (Operand.tmp 35) (Operand.tmp 41) 3, guard := none, bef := [9, 8, 7, 6, 4, 5, 15, 14, 13, 10, 12, 11] },
                  { dst := some 43, op := Op.binOp BinOp.neq 3 (Operand.tmp 29) (Operand.tmp 42) 3, guard := none, bef := [3, 2, 0, 1, 16, 9, 8, 7, 6, 4, 5, 15, 14, 13, 10, 12, 11] }]).seq
            (IC.cond (Operand.tmp 43)
              ((IC.ops
                    [{ dst := some 2, op := Op.assign (Operand.const (Value.slice none 0 0)), guard := none },
                      { dst := some 3,
                        op :=
                          Op.assign
                            (Operand.const
                              (Value.string { data := { toList := [115, 117, 109] } })),
                        guard := none }]).seq
                IC.ret)
              IC.skip)).seq
        (((IC.ops
                  [{ dst := some 44, op := Op.move (Operand.tmp 0), guard := none },
                    { dst := some 45, op := Op.indexAddr 22 (Operand.tmp 44) (Operand.const (Value.int IntKind.i64 (Int.ofNat 0))), guard := none },
                    { dst := some 46, op := Op.load 5 (Operand.tmp 45), guard := none },
                    { dst := some 47, op := Op.binOp BinOp.neq 5 (Operand.tmp 46) (Operand.const (Value.int IntKind.u8 (Int.ofNat 76))) 5, guard := none }]).seq
              (IC.cond (Operand.tmp 47)
                ((IC.ops
                      [{ dst := some 2, op := Op.assign (Operand.const (Value.slice none 0 0)), guard := none },
                        { dst := some 3,
                          op :=
                            Op.assign
                              (Operand.const
                                (Value.string
                                  {
                                    data :=
                                      {
                                        toList :=
                                          [109, 97, 114,
                                            107] } })),
                          guard := none }]).seq
                  IC.ret)
                IC.skip)).seq
          ((IC.ops [{ dst := some 5, op := Op.assign (Operand.const (Value.slice none 0 0)), guard := none }]).seq
            (((IC.ops [{ dst := some 6, op := Op.assign (Operand.const (Value.int IntKind.i64 (Int.ofNat 2))), guard := none }]).seq
                  (IC.block 0
                    (((IC.ops
                                [{ dst := some 48, op := Op.move (Operand.tmp 6), guard := none }, { dst := some 49, op := Op.move (Operand.tmp 4), guard := none },
                                  { dst := some 50, op := Op.binOp BinOp.lss 3 (Operand.tmp 48) (Operand.tmp 49) 3, guard := none }]).seq
                            (IC.cond (Operand.tmp 50) IC.skip (IC.exit 0))).seq
                        ((IC.block 1
                              ((IC.ops [{ dst := some 7, op := Op.assign (Operand.const (Value.int IntKind.i64 (Int.ofNat 0))), guard := none }]).seq
                                (((IC.ops [{ dst := some 8, op := Op.assign (Operand.const (Value.int IntKind.i64 (Int.ofNat 1))), guard := none }]).seq
                                      (IC.block 2
                                        (((IC.ops
                                                    [{ dst := some 53, op := Op.move (Operand.tmp 8), guard := none },
                                                      { dst := some 54, op := Op.binOp BinOp.lss 3 (Operand.tmp 53) (Operand.const (Value.int IntKind.i64 (Int.ofNat 6))) 3, guard := none }]).seq
                                                (IC.cond (Operand.tmp 54) IC.skip (IC.exit 2))).seq
                                            ((IC.block 3
                                                  (IC.ops
                                                    [{ dst := some 57, op := Op.move (Operand.tmp 7), guard := none },
                                                      { dst := some 58, op := Op.binOp BinOp.mul 3 (Operand.const (Value.int IntKind.i64 (Int.ofNat 256))) (Operand.tmp 57) 3, guard := none },
                                                      { dst := some 59, op := Op.move (Operand.tmp 0), guard := none }, { dst := some 60, op := Op.move (Operand.tmp 6), guard := none },
                                                      { dst := some 61, op := Op.move (Operand.tmp 8), guard := none },
                                                      { dst := some 62, op := Op.binOp BinOp.add 3 (Operand.tmp 60) (Operand.tmp 61) 3, guard := none },
                                                      { dst := some 63, op := Op.indexAddr 22 (Operand.tmp 59) (Operand.tmp 62), guard := none },
                                                      { dst := some 64, op := Op.load 5 (Operand.tmp 63), guard := none }, { dst := some 65, op := Op.convert 5 3 (Operand.tmp 64), guard := none },
                                                      { dst := some 66, op := Op.binOp BinOp.add 3 (Operand.tmp 58) (Operand.tmp 65) 3, guard := none },
                                                      { dst := some 7, op := Op.assign (Operand.tmp 66), guard := none }])).seq
                                              (IC.ops
                                                [{ dst := some 55, op := Op.move (Operand.tmp 8), guard := none },
                                                  { dst := some 56, op := Op.binOp BinOp.add 3 (Operand.tmp 55) (Operand.const (Value.int IntKind.i64 (Int.ofNat 1))) 3, guard := none },
                                                  { dst := some 8, op := Op.assign (Operand.tmp 56), guard := none }]))).loop)).seq
                                  (IC.ops
                                    [{ dst := some 67, op := Op.move (Operand.tmp 5), guard := none }, { dst := some 68, op := Op.move (Operand.tmp 0), guard := none },
                                      { dst := some 69, op := Op.move (Operand.tmp 6), guard := none }, { dst := some 70, op := Op.indexAddr 22 (Operand.tmp 68) (Operand.tmp 69), guard := none },
                                      { dst := some 71, op := Op.load 5 (Operand.tmp 70), guard := none }, { dst := some 72, op := Op.convert 5 43 (Operand.tmp 71), guard := none },
                                      { dst := some 73, op := Op.move (Operand.tmp 7), guard := none },
                                      { dst := some 74, op := Op.build 45 { toList := [(0, Operand.tmp 72), (1, Operand.tmp 73)] }, guard := none },
                                      { dst := some 75, op := Op.buildSlice 27 1 { toList := [(0, Operand.tmp 74)] }, guard := none },
                                      { dst := some 76,
                                        op := Op.call { callee := Callee.builtin Builtin.append, args := { toList := [Operand.tmp 67, Operand.tmp 75] }, argTypes := { toList := [27, 27] } },
                                        guard := none },
                                      { dst := some 5, op := Op.assign (Operand.tmp 76), guard := none }])))).seq
                          (IC.ops
                            [{ dst := some 51, op := Op.move (Operand.tmp 6), guard := none },
                              { dst := some 52, op := Op.binOp BinOp.add 3 (Operand.tmp 51) (Operand.const (Value.int IntKind.i64 (Int.ofNat 6))) 3, guard := none },
                              { dst := some 6, op := Op.assign (Operand.tmp 52), guard := none }]))).loop)).seq
              (((IC.ops
                        [{ dst := some 77, op := Op.move (Operand.tmp 5), guard := none },
                          { dst := some 78, op := Op.call { callee := Callee.value (Operand.func 19), args := { toList := [Operand.tmp 77] }, argTypes := { toList := [27] } }, guard := none },
                          { dst := some 79, op := Op.unOp UnOp.not 4 (Operand.tmp 78), guard := none }]).seq
                    (IC.cond (Operand.tmp 79)
                      ((IC.ops
                            [{ dst := some 2, op := Op.assign (Operand.const (Value.slice none 0 0)), guard := none },
                              { dst := some 3,
                                op :=
                                  Op.assign
                                    (Operand.const
                                      (Value.string
                                        {
                                          data :=
                                            {
                                              toList :=
                                                [102, 97, 117,
                                                  108, 116] } })),
                                guard := none }]).seq
                        IC.ret)
                      IC.skip)).seq
                ((IC.ops
                      [{ dst := some 80, op := Op.move (Operand.tmp 5), guard := none }, { dst := some 2, op := Op.assign (Operand.tmp 80), guard := none },
                        { dst := some 3, op := Op.assign (Operand.const (Value.string { data := { toList := [] } })), guard := none }]).seq
                  IC.ret))))))))
theorem ic9_eq : Tryd.f9.body.map comp = some ic9 := by kernel_rfl
theorem ic9_ok : Tryd.f9.body.map (okC Tryd.f9.ntmps) = some true := by kernel_rfl
theorem ic9_nm : (Tryd.f9.name != "runtime.NumGoroutine") = true := by kernel_rfl
@[simp] theorem ic9_n : Tryd.f9.ntmps = 81 := by kernel_rfl
@[simp] theorem ic9_r : Tryd.f9.results.toList = [ResultVar.tmp 2, ResultVar.tmp 3] := by kernel_rfl

def ic10 : IC :=
  (IC.ops [{ dst := some 4, op := Op.assign (Operand.const (Value.bool false)), guard := none }]).seq
  (((IC.ops
            [{ dst := some 6, op := Op.move (Operand.tmp 0), guard := none },
              { dst := some 7, op := Op.call { callee := Callee.builtin Builtin.len, args := { toList := [Operand.tmp 6] }, argTypes := { toList := [27] } }, guard := none },
              { dst := some 8, op := Op.move (Operand.tmp 1), guard := none },
              { dst := some 9, op := Op.call { callee := Callee.builtin Builtin.len, args := { toList := [Operand.tmp 8] }, argTypes := { toList := [27] } }, guard := none },
              { dst := some 10, op := Op.binOp BinOp.neq 3 (Operand.tmp 7) (Operand.tmp 9) 3, guard := none }]).seq
        (IC.cond (Operand.tmp 10) ((IC.ops [{ dst := some 4, op := Op.assign (Operand.const (Value.bool false)), guard := none }]).seq IC.ret) IC.skip)).seq
    (((IC.ops
              [{ dst := some 11, op := Op.move (Operand.tmp 0), guard := none },
                { dst := some 12, op := Op.call { callee := Callee.builtin Builtin.len, args := { toList := [Operand.tmp 11] }, argTypes := { toList := [27] } }, guard := none },
                { dst := some 13, op := Op.move (Operand.const (Value.int IntKind.i64 (Int.ofNat 0))), guard := none }]).seq
          (IC.block 0
            ((IC.ops [{ dst := some 14, op := Op.binOp BinOp.lss 3 (Operand.tmp 13) (Operand.tmp 12) 3, guard := none }]).seq
                ((IC.cond (Operand.tmp 14) IC.skip (IC.exit 0)).seq
                  ((IC.block 1
                        ((IC.ops [{ dst := some 15, op := Op.move (Operand.tmp 13), guard := none }, { dst := some 5, op := Op.assign (Operand.tmp 15), guard := none }]).seq
                          ((IC.opsD
                                [{ dst := some 16, op := Op.move (Operand.tmp 0), guard := none }, { dst := some 17, op := Op.move (Operand.tmp 5), guard := none },
                                  { dst := some 18, op := Op.indexAddr 27 (Operand.tmp 16) (Operand.tmp 17), guard := none, bef := [0, 1] },
                                  { dst := some 19, op := Op.load 45 (Operand.tmp 18), guard := none, bef := [2, 0, 1] }, { dst := some 20, op := Op.move (Operand.tmp 1), guard := none },
                                  { dst := some 21, op := Op.move (Operand.tmp 5), guard := none },
                                  { dst := some 22, op := Op.indexAddr 27 (Operand.tmp 20) (Operand.tmp 21), guard := none, bef := [4, 5] },
                                  { dst := some 23, op := Op.load 45 (Operand.tmp 22), guard := none, bef := [6, 4, 5] },
                                  { dst := some 24, op := Op.binOp BinOp.neq 45 (Operand.tmp 19) (Operand.tmp 23) 45, guard := none, bef := [3, 2, 0, 1, 7, 6, 4, 5] }]).seq
                            (IC.cond (Operand.tmp 24) ((IC.ops [{ dst := some 4, op := Op.assign (Operand.const (Value.bool false)), guard := none }]).seq IC.ret) IC.skip)))).seq
                    (IC.ops
                      [{ dst := some 25, op := Op.binOp BinOp.add 3 (Operand.tmp 13) (Operand.const (Value.int IntKind.i64 (Int.ofNat 1))) 3, guard := none },
                        { dst := some 13, op := Op.move (Operand.tmp 25), guard := none }])))).loop)).seq
      ((IC.ops [{ dst := some 4, op := Op.assign (Operand.const (Value.bool true)), guard := none }]).seq IC.ret)))
theorem ic10_eq : Tryd.f10.body.map comp = some ic10 := by kernel_rfl
theorem ic10_ok : Tryd.f10.body.map (okC Tryd.f10.ntmps) = some true := by kernel_rfl
theorem ic10_nm : (Tryd.f10.name != "runtime.NumGoroutine") = true := by kernel_rfl
@[simp] theorem ic10_n : Tryd.f10.ntmps = 26 := by kernel_rfl
@[simp] theorem ic10_r : Tryd.f10.results.toList = [ResultVar.tmp 4] := by kernel_rfl

def ic11 : IC :=
  (IC.ops [{ dst := some 4, op := Op.assign (Operand.const (Value.bool false)), guard := none }]).seq
  (((IC.ops
            [{ dst := some 8, op := Op.move (Operand.tmp 1), guard := none },
              { dst := some 9, op := Op.binOp BinOp.eql 9 (Operand.tmp 8) (Operand.const (Value.string { data := { toList := [] } })) 9, guard := none }]).seq
        (IC.cond (Operand.tmp 9)
          ((IC.ops
                [{ dst := some 10, op := Op.move (Operand.tmp 0), guard := none }, { dst := some 11, op := Op.binOp BinOp.eql 29 (Operand.tmp 10) (Operand.const Value.nilIface) 29, guard := none },
                  { dst := some 4, op := Op.assign (Operand.tmp 11), guard := none }]).seq
            IC.ret)
          IC.skip)).seq
    ((IC.ops
          [{ dst := some 12, op := Op.move (Operand.tmp 0), guard := none },
            { dst := some 13, op := Op.call { callee := Callee.value (Operand.func 20), args := { toList := [Operand.tmp 12] }, argTypes := { toList := [29] } }, guard := none },
            { dst := some 5, op := Op.assign (Operand.tmp 13), guard := none }]).seq
      ((IC.ops
            [{ dst := some 15, op := Op.move (Operand.tmp 0), guard := none },
              { dst := some 16, op := Op.call { callee := Callee.value (Operand.func 21), args := { toList := [Operand.tmp 15] }, argTypes := { toList := [29] } }, guard := none },
              { dst := some 14, op := Op.move (Operand.tmp 16), guard := none }, { dst := some 17, op := Op.extract (Operand.tmp 14) 0, guard := none },
              { dst := some 18, op := Op.extract (Operand.tmp 14) 1, guard := none }, { dst := some 6, op := Op.alloc 45, guard := none },
              { dst := none, op := Op.store 45 (Operand.tmp 6) (Operand.tmp 17), guard := none }, { dst := some 7, op := Op.assign (Operand.tmp 18), guard := none }]).seq
        ((IC.ops
              [{ dst := some 19, op := Op.move (Operand.tmp 7), guard := none }, { dst := some 20, op := Op.move (Operand.tmp 19), guard := none },
                { dst := some 21, op := Op.load 45 (Operand.tmp 6), guard := some (some 20, true) },
                { dst := some 22, op := Op.build 45 { toList := [(0, Operand.const (Value.int IntKind.i64 (Int.ofNat 2)))] }, guard := some (some 20, true) },
                { dst := some 23, op := Op.binOp BinOp.eql 45 (Operand.tmp 21) (Operand.tmp 22) 45, guard := some (some 20, true) },
                { dst := some 24, op := Op.pick (Operand.tmp 20) (Operand.tmp 23) (Operand.const (Value.bool false)), guard := none },
                { dst := some 25, op := Op.move (Operand.tmp 24), guard := none }, { dst := some 26, op := Op.move (Operand.tmp 5), guard := some (some 25, true) },
                { dst := some 27, op := Op.call { callee := Callee.builtin Builtin.len, args := { toList := [Operand.tmp 26] }, argTypes := { toList := [52] } }, guard := some (some 25, true) },
                { dst := some 28, op := Op.binOp BinOp.eql 3 (Operand.tmp 27) (Operand.const (Value.int IntKind.i64 (Int.ofNat 1))) 3, guard := some (some 25, true) },
                { dst := some 29, op := Op.pick (Operand.tmp 25) (Operand.tmp 28) (Operand.const (Value.bool false)), guard := none },
                { dst := some 30, op := Op.move (Operand.tmp 29), guard := none }, { dst := some 31, op := Op.move (Operand.tmp 5), guard := some (some 30, true) },
                { dst := some 32, op := Op.indexAddr 52 (Operand.tmp 31) (Operand.const (Value.int IntKind.i64 (Int.ofNat 0))), guard := some (some 30, true) },
                { dst := some 33, op := Op.load 9 (Operand.tmp 32), guard := some (some 30, true) }, { dst := some 34, op := Op.move (Operand.tmp 1), guard := some (some 30, true) },
                { dst := some 35, op := Op.binOp BinOp.eql 9 (Operand.tmp 33) (Operand.tmp 34) 9, guard := some (some 30, true) },
                { dst := some 36, op := Op.pick (Operand.tmp 30) (Operand.tmp 35) (Operand.const (Value.bool false)), guard := none },
                { dst := some 4, op := Op.assign (Operand.tmp 36), guard := none }]).seq
          IC.ret))))
theorem ic11_eq : Tryd.f11.body.map comp = some ic11 := by kernel_rfl
theorem ic11_ok : Tryd.f11.body.map (okC Tryd.f11.ntmps) = some true := by kernel_rfl
theorem ic11_nm : (Tryd.f11.name != "runtime.NumGoroutine") = true := by kernel_rfl
@[simp] theorem ic11_n : Tryd.f11.ntmps = 37 := by kernel_rfl
@[simp] theorem ic11_r : Tryd.f11.results.toList = [ResultVar.tmp 4] := by kernel_rfl

def ic12 : IC :=
  (IC.ops [{ dst := some 2, op := Op.assign (Operand.const (Value.slice none 0 0)), guard := none }, { dst := some 3, op := Op.assign (Operand.const Value.nilIface), guard := none }]).seq
  (((IC.ops
            [{ dst := some 9, op := Op.move (Operand.tmp 0), guard := none },
              { dst := some 10, op := Op.call { callee := Callee.value (Operand.func 18), args := { toList := [Operand.tmp 9] }, argTypes := { toList := [27] } }, guard := none },
              { dst := some 11, op := Op.unOp UnOp.not 4 (Operand.tmp 10), guard := none }]).seq
        (IC.cond (Operand.tmp 11)
          ((IC.ops
                [{ dst := some 12,
                    op :=
                      Op.call
                        { callee := Callee.value (Operand.func 15),
                          args :=
                            {
                              toList :=
                                [Operand.const
                                    (Value.string
                                      {
                                        data :=
                                          {
                                            toList :=
                                              [119, 114, 105,
                                                116, 101] } })] },
                          argTypes := { toList := [9] } },
                    guard := none },
                  { dst := some 2, op := Op.assign (Operand.const (Value.slice none 0 0)), guard := none }, { dst := some 3, op := Op.assign (Operand.tmp 12), guard := none }]).seq
            IC.ret)
          IC.skip)).seq
    ((IC.ops
          [{ dst := some 13, op := Op.move (Operand.tmp 0), guard := none },
            { dst := some 14, op := Op.call { callee := Callee.builtin Builtin.len, args := { toList := [Operand.tmp 13] }, argTypes := { toList := [27] } }, guard := none },
            { dst := some 15, op := Op.convert 3 5 (Operand.tmp 14), guard := none },
            { dst := some 16, op := Op.buildSlice 22 2 { toList := [(0, Operand.const (Value.int IntKind.u8 (Int.ofNat 76))), (1, Operand.tmp 15)] }, guard := none },
            { dst := some 4, op := Op.assign (Operand.tmp 16), guard := none }]).seq
      (((IC.ops
                [{ dst := some 17, op := Op.move (Operand.tmp 0), guard := none },
                  { dst := some 18, op := Op.call { callee := Callee.builtin Builtin.len, args := { toList := [Operand.tmp 17] }, argTypes := { toList := [27] } }, guard := none },
                  { dst := some 19, op := Op.move (Operand.const (Value.int IntKind.i64 (Int.ofNat 0))), guard := none }]).seq
            (IC.block 0
              ((IC.ops [{ dst := some 20, op := Op.binOp BinOp.lss 3 (Operand.tmp 19) (Operand.tmp 18) 3, guard := none }]).seq
                  ((IC.cond (Operand.tmp 20) IC.skip (IC.exit 0)).seq
                    ((IC.block 1
                          ((IC.ops
                                [{ dst := some 21, op := Op.indexAddr 27 (Operand.tmp 17) (Operand.tmp 19), guard := none }, { dst := some 22, op := Op.load 45 (Operand.tmp 21), guard := none },
                                  { dst := some 6, op := Op.alloc 45, guard := none }, { dst := none, op := Op.store 45 (Operand.tmp 6) (Operand.tmp 22), guard := none }]).seq
                            ((IC.ops
                                  [{ dst := some 23, op := Op.move (Operand.tmp 4), guard := none }, { dst := some 24, op := Op.fieldAddr 45 (Operand.tmp 6) 0, guard := none },
                                    { dst := some 25, op := Op.load 43 (Operand.tmp 24), guard := none }, { dst := some 26, op := Op.convert 43 5 (Operand.tmp 25), guard := none },
                                    { dst := some 27, op := Op.buildSlice 22 1 { toList := [(0, Operand.tmp 26)] }, guard := none },
                                    { dst := some 28,
                                      op := Op.call { callee := Callee.builtin Builtin.append, args := { toList := [Operand.tmp 23, Operand.tmp 27] }, argTypes := { toList := [22, 22] } },
                                      guard := none },
                                    { dst := some 4, op := Op.assign (Operand.tmp 28), guard := none }]).seq
                              ((IC.ops [{ dst := some 7, op := Op.assign (Operand.const (Value.int IntKind.i64 (Int.ofNat 4))), guard := none }]).seq
                                (IC.block 2
                                  (((IC.ops
                                              [{ dst := some 29, op := Op.move (Operand.tmp 7), guard := none },
                                                { dst := some 30, op := Op.binOp BinOp.geq 3 (Operand.tmp 29) (Operand.const (Value.int IntKind.i64 (Int.ofNat 0))) 3, guard := none }]).seq
                                          (IC.cond (Operand.tmp 30) IC.skip (IC.exit 2))).seq
                                      ((IC.block 3
                                            (IC.ops
                                              [{ dst := some 33, op := Op.move (Operand.tmp 4), guard := none }, { dst := some 34, op := Op.fieldAddr 45 (Operand.tmp 6) 1, guard := none },
                                                { dst := some 35, op := Op.load 3 (Operand.tmp 34), guard := none }, { dst := some 36, op := Op.move (Operand.tmp 7), guard := none },
                                                { dst := some 37, op := Op.binOp BinOp.mul 3 (Operand.const (Value.int IntKind.i64 (Int.ofNat 8))) (Operand.tmp 36) 3, guard := none },
                                                { dst := some 38, op := Op.binOp BinOp.shr 3 (Operand.tmp 35) (Operand.tmp 37) 3, guard := none },
                                                { dst := some 39, op := Op.convert 3 5 (Operand.tmp 38), guard := none },
                                                { dst := some 40, op := Op.buildSlice 22 1 { toList := [(0, Operand.tmp 39)] }, guard := none },
                                                { dst := some 41,
                                                  op := Op.call { callee := Callee.builtin Builtin.append, args := { toList := [Operand.tmp 33, Operand.tmp 40] }, argTypes := { toList := [22, 22] } },
                                                  guard := none },
                                                { dst := some 4, op := Op.assign (Operand.tmp 41), guard := none }])).seq
                                        (IC.ops
                                          [{ dst := some 31, op := Op.move (Operand.tmp 7), guard := none },
                                            { dst := some 32, op := Op.binOp BinOp.sub 3 (Operand.tmp 31) (Operand.const (Value.int IntKind.i64 (Int.ofNat 1))) 3, guard := none },
                                            { dst := some 7, op := Op.assign (Operand.tmp 32), guard := none }]))).loop))))).seq
                      (IC.ops
                        [{ dst := some 42, op := Op.binOp BinOp.add 3 (Operand.tmp 19) (Operand.const (Value.int IntKind.i64 (Int.ofNat 1))) 3, guard := none },
                          { dst := some 19, op := Op.move (Operand.tmp 42), guard := none }])))).loop)).seq
        ((IC.ops
              [{ dst := some 43, op := Op.move (Operand.tmp 4), guard := none },
                { dst := some 44, op := Op.call { callee := Callee.value (Operand.func 6), args := { toList := [Operand.tmp 43] }, argTypes := { toList := [22] } }, guard := none },
                { dst := some 8, op := Op.assign (Operand.tmp 44), guard := none }]).seq
          ((IC.ops
                [{ dst := some 45, op := Op.move (Operand.tmp 4), guard := none }, { dst := some 46, op := Op.move (Operand.tmp 8), guard := none },
                  { dst := some 47, op := Op.binOp BinOp.shr 3 (Operand.tmp 46) (Operand.const (Value.int IntKind.u64 (Int.ofNat 8))) 25, guard := none },
                  { dst := some 48, op := Op.convert 3 5 (Operand.tmp 47), guard := none }, { dst := some 49, op := Op.move (Operand.tmp 8), guard := none },
                  { dst := some 50, op := Op.convert 3 5 (Operand.tmp 49), guard := none },
                  { dst := some 51, op := Op.buildSlice 22 2 { toList := [(0, Operand.tmp 48), (1, Operand.tmp 50)] }, guard := none },
                  { dst := some 52, op := Op.call { callee := Callee.builtin Builtin.append, args := { toList := [Operand.tmp 45, Operand.tmp 51] }, argTypes := { toList := [22, 22] } },
                    guard := none },
                  { dst := some 2, op := Op.assign (Operand.tmp 52), guard := none }, { dst := some 3, op := Op.assign (Operand.const Value.nilIface), guard := none }]).seq
            IC.ret)))))
theorem ic12_eq : Tryd.f12.body.map comp = some ic12 := by kernel_rfl
theorem ic12_ok : Tryd.f12.body.map (okC Tryd.f12.ntmps) = some true := by kernel_rfl
theorem ic12_nm : (Tryd.f12.name != "runtime.NumGoroutine") = true := by kernel_rfl
@[simp] theorem ic12_n : Tryd.f12.ntmps = 53 := by kernel_rfl
@[simp] theorem ic12_r : Tryd.f12.results.toList = [ResultVar.tmp 2, ResultVar.tmp 3] := by kernel_rfl

def ic13 : IC :=
  (IC.ops [{ dst := some 2, op := Op.assign (Operand.const (Value.slice none 0 0)), guard := none }, { dst := some 3, op := Op.assign (Operand.const (Value.bool false)), guard := none }]).seq
  (((IC.ops
            [{ dst := some 7, op := Op.move (Operand.tmp 0), guard := none },
              { dst := some 8, op := Op.call { callee := Callee.value (Operand.func 19), args := { toList := [Operand.tmp 7] }, argTypes := { toList := [27] } }, guard := none },
              { dst := some 9, op := Op.unOp UnOp.not 4 (Operand.tmp 8), guard := none }]).seq
        (IC.cond (Operand.tmp 9)
          ((IC.ops [{ dst := some 2, op := Op.assign (Operand.const (Value.slice none 0 0)), guard := none }, { dst := some 3, op := Op.assign (Operand.const (Value.bool false)), guard := none }]).seq
            IC.ret)
          IC.skip)).seq
    ((IC.ops
          [{ dst := some 10, op := Op.move (Operand.tmp 0), guard := none },
            { dst := some 11, op := Op.call { callee := Callee.builtin Builtin.len, args := { toList := [Operand.tmp 10] }, argTypes := { toList := [27] } }, guard := none },
            { dst := some 12, op := Op.convert 3 5 (Operand.tmp 11), guard := none },
            { dst := some 13, op := Op.buildSlice 22 2 { toList := [(0, Operand.const (Value.int IntKind.u8 (Int.ofNat 76))), (1, Operand.tmp 12)] }, guard := none },
            { dst := some 4, op := Op.assign (Operand.tmp 13), guard := none }]).seq
      (((IC.ops
                [{ dst := some 14, op := Op.move (Operand.tmp 0), guard := none },
                  { dst := some 15, op := Op.call { callee := Callee.builtin Builtin.len, args := { toList := [Operand.tmp 14] }, argTypes := { toList := [27] } }, guard := none },
                  { dst := some 16, op := Op.move (Operand.const (Value.int IntKind.i64 (Int.ofNat 0))), guard := none }]).seq
            (IC.block 0
              ((IC.ops [{ dst := some 17, op := Op.binOp BinOp.lss 3 (Operand.tmp 16) (Operand.tmp 15) 3, guard := none }]).seq
                  ((IC.cond (Operand.tmp 17) IC.skip (IC.exit 0)).seq
                    ((IC.block 1
                          ((IC.ops [{ dst := some 18, op := Op.move (Operand.tmp 16), guard := none }, { dst := some 5, op := Op.assign (Operand.tmp 18), guard := none }]).seq
                            ((IC.ops
                                  [{ dst := some 19, op := Op.move (Operand.tmp 4), guard := none }, { dst := some 20, op := Op.move (Operand.tmp 0), guard := none },
                                    { dst := some 21, op := Op.move (Operand.tmp 5), guard := none }, { dst := some 22, op := Op.indexAddr 27 (Operand.tmp 20) (Operand.tmp 21), guard := none },
                                    { dst := some 23, op := Op.fieldAddr 45 (Operand.tmp 22) 0, guard := none }, { dst := some 24, op := Op.load 43 (Operand.tmp 23), guard := none },
                                    { dst := some 25, op := Op.convert 43 5 (Operand.tmp 24), guard := none },
                                    { dst := some 26, op := Op.buildSlice 22 1 { toList := [(0, Operand.tmp 25)] }, guard := none },
                                    { dst := some 27,
                                      op := Op.call { callee := Callee.builtin Builtin.append, args := { toList := [Operand.tmp 19, Operand.tmp 26] }, argTypes := { toList := [22, 22] } },
                                      guard := none },
                                    { dst := some 4, op := Op.assign (Operand.tmp 27), guard := none }]).seq
                              ((IC.ops
                                    [{ dst := some 28, op := Op.move (Operand.tmp 0), guard := none }, { dst := some 29, op := Op.move (Operand.tmp 5), guard := none },
                                      { dst := some 30, op := Op.indexAddr 27 (Operand.tmp 28) (Operand.tmp 29), guard := none },
                                      { dst := some 31, op := Op.fieldAddr 45 (Operand.tmp 30) 1, guard := none }, { dst := some 32, op := Op.load 3 (Operand.tmp 31), guard := none },
                                      { dst := some 6, op := Op.assign (Operand.tmp 32), guard := none }]).seq
                                (IC.ops
                                  [{ dst := some 33, op := Op.move (Operand.tmp 4), guard := none }, { dst := some 34, op := Op.move (Operand.tmp 6), guard := none },
                                    { dst := some 35, op := Op.binOp BinOp.quo 3 (Operand.tmp 34) (Operand.const (Value.int IntKind.i64 (Int.ofNat 4294967296))) 3, guard := none },
                                    { dst := some 36, op := Op.convert 3 5 (Operand.tmp 35), guard := none }, { dst := some 37, op := Op.move (Operand.tmp 6), guard := none },
                                    { dst := some 38, op := Op.binOp BinOp.quo 3 (Operand.tmp 37) (Operand.const (Value.int IntKind.i64 (Int.ofNat 16777216))) 3, guard := none },
                                    { dst := some 39, op := Op.binOp BinOp.rem 3 (Operand.tmp 38) (Operand.const (Value.int IntKind.i64 (Int.ofNat 256))) 3, guard := none },
                                    { dst := some 40, op := Op.convert 3 5 (Operand.tmp 39), guard := none }, { dst := some 41, op := Op.move (Operand.tmp 6), guard := none },
                                    { dst := some 42, op := Op.binOp BinOp.quo 3 (Operand.tmp 41) (Operand.const (Value.int IntKind.i64 (Int.ofNat 65536))) 3, guard := none },
                                    { dst := some 43, op := Op.binOp BinOp.rem 3 (Operand.tmp 42) (Operand.const (Value.int IntKind.i64 (Int.ofNat 256))) 3, guard := none },
                                    { dst := some 44, op := Op.convert 3 5 (Operand.tmp 43), guard := none }, { dst := some 45, op := Op.move (Operand.tmp 6), guard := none },
                                    { dst := some 46, op := Op.binOp BinOp.quo 3 (Operand.tmp 45) (Operand.const (Value.int IntKind.i64 (Int.ofNat 256))) 3, guard := none },
                                    { dst := some 47, op := Op.binOp BinOp.rem 3 (Operand.tmp 46) (Operand.const (Value.int IntKind.i64 (Int.ofNat 256))) 3, guard := none },
                                    { dst := some 48, op := Op.convert 3 5 (Operand.tmp 47), guard := none }, { dst := some 49, op := Op.move (Operand.tmp 6), guard := none },
                                    { dst := some 50, op := Op.binOp BinOp.rem 3 (Operand.tmp 49) (Operand.const (Value.int IntKind.i64 (Int.ofNat 256))) 3, guard := none },
                                    { dst := some 51, op := Op.convert 3 5 (Operand.tmp 50), guard := none },
                                    { dst := some 52, op := Op.buildSlice 22 5 { toList := [(0, Operand.tmp 36), (1, Operand.tmp 40), (2, Operand.tmp 44), (3, Operand.tmp 48), (4, Operand.tmp 51)] },
                                      guard := none },
                                    { dst := some 53,
                                      op := Op.call { callee := Callee.builtin Builtin.append, args := { toList := [Operand.tmp 33, Operand.tmp 52] }, argTypes := { toList := [22, 22] } },
                                      guard := none },
                                    { dst := some 4, op := Op.assign (Operand.tmp 53), guard := none }]))))).seq
                      (IC.ops
                        [{ dst := some 54, op := Op.binOp BinOp.add 3 (Operand.tmp 16) (Operand.const (Value.int IntKind.i64 (Int.ofNat 1))) 3, guard := none },
                          { dst := some 16, op := Op.move (Operand.tmp 54), guard := none }])))).loop)).seq
        ((IC.ops
              [{ dst := some 55, op := Op.move (Operand.tmp 4), guard := none },
                { dst := some 56, op := Op.call { callee := Callee.value (Operand.func 22), args := { toList := [Operand.tmp 55] }, argTypes := { toList := [22] } }, guard := none },
                { dst := some 2, op := Op.assign (Operand.tmp 56), guard := none }, { dst := some 3, op := Op.assign (Operand.const (Value.bool true)), guard := none }]).seq
          IC.ret))))
theorem ic13_eq : Tryd.f13.body.map comp = some ic13 := by kernel_rfl
theorem ic13_ok : Tryd.f13.body.map (okC Tryd.f13.ntmps) = some true := by kernel_rfl
theorem ic13_nm : (Tryd.f13.name != "runtime.NumGoroutine") = true := by kernel_rfl
@[simp] theorem ic13_n : Tryd.f13.ntmps = 57 := by kernel_rfl
@[simp] theorem ic13_r : Tryd.f13.results.toList = [ResultVar.tmp 2, ResultVar.tmp 3] := by kernel_rfl

def ic14 : IC :=
  (IC.ops [{ dst := some 4, op := Op.assign (Operand.const (Value.bool false)), guard := none }]).seq
  (((IC.ops
            [{ dst := some 6, op := Op.move (Operand.tmp 0), guard := none },
              { dst := some 7, op := Op.call { callee := Callee.builtin Builtin.len, args := { toList := [Operand.tmp 6] }, argTypes := { toList := [22] } }, guard := none },
              { dst := some 8, op := Op.move (Operand.tmp 1), guard := none },
              { dst := some 9, op := Op.call { callee := Callee.builtin Builtin.len, args := { toList := [Operand.tmp 8] }, argTypes := { toList := [22] } }, guard := none },
              { dst := some 10, op := Op.binOp BinOp.neq 3 (Operand.tmp 7) (Operand.tmp 9) 3, guard := none }]).seq
        (IC.cond (Operand.tmp 10) ((IC.ops [{ dst := some 4, op := Op.assign (Operand.const (Value.bool false)), guard := none }]).seq IC.ret) IC.skip)).seq
    (((IC.ops
              [{ dst := some 11, op := Op.move (Operand.tmp 0), guard := none },
                { dst := some 12, op := Op.call { callee := Callee.builtin Builtin.len, args := { toList := [Operand.tmp 11] }, argTypes := { toList := [22] } }, guard := none },
                { dst := some 13, op := Op.move (Operand.const (Value.int IntKind.i64 (Int.ofNat 0))), guard := none }]).seq
          (IC.block 0
            ((IC.ops [{ dst := some 14, op := Op.binOp BinOp.lss 3 (Operand.tmp 13) (Operand.tmp 12) 3, guard := none }]).seq
                ((IC.cond (Operand.tmp 14) IC.skip (IC.exit 0)).seq
                  ((IC.block 1
                        ((IC.ops [{ dst := some 15, op := Op.move (Operand.tmp 13), guard := none }, { dst := some 5, op := Op.assign (Operand.tmp 15), guard := none }]).seq
                          ((IC.opsD
                                [{ dst := some 16, op := Op.move (Operand.tmp 0), guard := none }, { dst := some 17, op := Op.move (Operand.tmp 5), guard := none },
                                  { dst := some 18, op := Op.indexAddr 22 (Operand.tmp 16) (Operand.tmp 17), guard := none, bef := [0, 1] },
                                  { dst := some 19, op := Op.load 5 (Operand.tmp 18), guard := none, bef := [2, 0, 1] }, { dst := some 20, op := Op.move (Operand.tmp 1), guard := none },
                                  { dst := some 21, op := Op.move (Operand.tmp 5), guard := none },
                                  { dst := some 22, op := Op.indexAddr 22 (Operand.tmp 20) (Operand.tmp 21), guard := none, bef := [4, 5] },
                                  { dst := some 23, op := Op.load 5 (Operand.tmp 22), guard := none, bef := [6, 4, 5] },
                                  { dst := some 24, op := Op.binOp BinOp.neq 5 (Operand.tmp 19) (Operand.tmp 23) 5, guard := none, bef := [3, 2, 0, 1, 7, 6, 4, 5] }]).seq
                            (IC.cond (Operand.tmp 24) ((IC.ops [{ dst := some 4, op := Op.assign (Operand.const (Value.bool false)), guard := none }]).seq IC.ret) IC.skip)))).seq
                    (IC.ops
                      [{ dst := some 25, op := Op.binOp BinOp.add 3 (Operand.tmp 13) (Operand.const (Value.int IntKind.i64 (Int.ofNat 1))) 3, guard := none },
                        { dst := some 13, op := Op.move (Operand.tmp 25), guard := none }])))).loop)).seq
      ((IC.ops [{ dst := some 4, op := Op.assign (Operand.const (Value.bool true)), guard := none }]).seq IC.ret)))
theorem ic14_eq : Tryd.f14.body.map comp = some ic14 := by kernel_rfl
theorem ic14_ok : Tryd.f14.body.map (okC Tryd.f14.ntmps) = some true := by kernel_rfl
theorem ic14_nm : (Tryd.f14.name != "runtime.NumGoroutine") = true := by kernel_rfl
@[simp] theorem ic14_n : Tryd.f14.ntmps = 26 := by kernel_rfl
@[simp] theorem ic14_r : Tryd.f14.results.toList = [ResultVar.tmp 4] := by kernel_rfl

def ic15 : IC :=
  (IC.ops [{ dst := some 2, op := Op.assign (Operand.const Value.nilIface), guard := none }]).seq
  ((IC.ops
        [{ dst := some 3, op := Op.move (Operand.tmp 0), guard := none },
          { dst := some 4,
            op :=
              Op.call
                { callee := Callee.value (Operand.func 24), args := { toList := [Operand.const (Value.int IntKind.i64 (Int.ofNat 2)), Operand.const (Value.int IntKind.i64 (Int.ofNat 0))] },
                  argTypes := { toList := [43, 3] } },
            guard := none },
          { dst := some 5, op := Op.call { callee := Callee.value (Operand.func 23), args := { toList := [Operand.tmp 3, Operand.tmp 4] }, argTypes := { toList := [9, 29] } }, guard := none },
          { dst := some 2, op := Op.assign (Operand.tmp 5), guard := none }]).seq
    IC.ret)
theorem ic15_eq : Tryd.f15.body.map comp = some ic15 := by kernel_rfl
theorem ic15_ok : Tryd.f15.body.map (okC Tryd.f15.ntmps) = some true := by kernel_rfl
theorem ic15_nm : (Tryd.f15.name != "runtime.NumGoroutine") = true := by kernel_rfl
@[simp] theorem ic15_n : Tryd.f15.ntmps = 6 := by kernel_rfl
@[simp] theorem ic15_r : Tryd.f15.results.toList = [ResultVar.tmp 2] := by kernel_rfl

def ic16 : IC :=
  (IC.ops
      [{ dst := some 2, op := Op.box 22 (Operand.tmp 0), guard := none }, { dst := some 3, op := Op.box 3 (Operand.tmp 1), guard := none },
        { dst := some 4, op := Op.assign (Operand.const Value.nilFunc), guard := none }]).seq
  (((IC.ops
            [{ dst := some 5, op := Op.load 3 (Operand.tmp 3), guard := none },
              { dst := some 6, op := Op.binOp BinOp.lss 3 (Operand.tmp 5) (Operand.const (Value.int IntKind.i64 (Int.ofNat 1))) 3, guard := none }]).seq
        (IC.cond (Operand.tmp 6)
          (IC.ops
            [{ dst := some 7,
                op :=
                  Op.makeInterface 9
                    (Operand.const
                      (Value.string
                        {
                          data :=
                            {
                              toList :=
                                [99, 97, 110, 110,
                                  111, 116, 32, 98,
                                  101, 32, 108, 101,
                                  115, 115, 32, 116,
                                  104, 97, 110, 32,
                                  49] } })),
                guard := none },
              { dst := none, op := Op.panic (Operand.tmp 7), guard := none }])
          IC.skip)).seq
    ((IC.ops
          [{ dst := some 8, op := Op.makeFunc (Fn.func 25) { toList := [] } { toList := [Operand.tmp 2, Operand.tmp 3] }, guard := none },
            { dst := some 4, op := Op.assign (Operand.tmp 8), guard := none }]).seq
      IC.ret))
theorem ic16_eq : Tryd.f16.body.map comp = some ic16 := by kernel_rfl
theorem ic16_ok : Tryd.f16.body.map (okC Tryd.f16.ntmps) = some true := by kernel_rfl
theorem ic16_nm : (Tryd.f16.name != "runtime.NumGoroutine") = true := by kernel_rfl
@[simp] theorem ic16_n : Tryd.f16.ntmps = 9 := by kernel_rfl
@[simp] theorem ic16_r : Tryd.f16.results.toList = [ResultVar.tmp 4] := by kernel_rfl

def ic17 : IC :=
  (IC.ops [{ dst := some 2, op := Op.alloc 45, guard := none }]).seq
  ((IC.ops
        [{ dst := some 6, op := Op.move (Operand.tmp 0), guard := none }, { dst := some 7, op := Op.indexAddr 22 (Operand.tmp 6) (Operand.const (Value.int IntKind.i64 (Int.ofNat 0))), guard := none },
          { dst := some 8, op := Op.load 5 (Operand.tmp 7), guard := none }, { dst := some 9, op := Op.convert 5 43 (Operand.tmp 8), guard := none },
          { dst := some 10, op := Op.build 45 { toList := [(0, Operand.tmp 9)] }, guard := none }, { dst := some 3, op := Op.alloc 45, guard := none },
          { dst := none, op := Op.store 45 (Operand.tmp 3) (Operand.tmp 10), guard := none }]).seq
    (((IC.ops
              [{ dst := some 11, op := Op.move (Operand.tmp 0), guard := none },
                { dst := some 12, op := Op.slice 22 (Operand.tmp 11) (some (Operand.const (Value.int IntKind.i64 (Int.ofNat 1)))) none none, guard := none },
                { dst := some 13, op := Op.call { callee := Callee.builtin Builtin.len, args := { toList := [Operand.tmp 12] }, argTypes := { toList := [22] } }, guard := none },
                { dst := some 14, op := Op.move (Operand.const (Value.int IntKind.i64 (Int.ofNat 0))), guard := none }]).seq
          (IC.block 0
            ((IC.ops [{ dst := some 15, op := Op.binOp BinOp.lss 3 (Operand.tmp 14) (Operand.tmp 13) 3, guard := none }]).seq
                ((IC.cond (Operand.tmp 15) IC.skip (IC.exit 0)).seq
                  ((IC.block 1
                        ((IC.ops
                              [{ dst := some 16, op := Op.indexAddr 22 (Operand.tmp 12) (Operand.tmp 14), guard := none }, { dst := some 17, op := Op.load 5 (Operand.tmp 16), guard := none },
                                { dst := some 5, op := Op.assign (Operand.tmp 17), guard := none }]).seq
                          (IC.ops
                            [{ dst := some 18, op := Op.fieldAddr 45 (Operand.tmp 3) 1, guard := none }, { dst := some 19, op := Op.load 3 (Operand.tmp 18), guard := none },
                              { dst := some 20, op := Op.binOp BinOp.shl 3 (Operand.tmp 19) (Operand.const (Value.int IntKind.u64 (Int.ofNat 8))) 25, guard := none },
                              { dst := some 21, op := Op.move (Operand.tmp 5), guard := none }, { dst := some 22, op := Op.convert 5 3 (Operand.tmp 21), guard := none },
                              { dst := some 23, op := Op.binOp BinOp.or 3 (Operand.tmp 20) (Operand.tmp 22) 3, guard := none },
                              { dst := some 24, op := Op.fieldAddr 45 (Operand.tmp 3) 1, guard := none }, { dst := none, op := Op.store 3 (Operand.tmp 24) (Operand.tmp 23), guard := none }]))).seq
                    (IC.ops
                      [{ dst := some 25, op := Op.binOp BinOp.add 3 (Operand.tmp 14) (Operand.const (Value.int IntKind.i64 (Int.ofNat 1))) 3, guard := none },
                        { dst := some 14, op := Op.move (Operand.tmp 25), guard := none }])))).loop)).seq
      ((IC.ops [{ dst := some 26, op := Op.load 45 (Operand.tmp 3), guard := none }, { dst := none, op := Op.store 45 (Operand.tmp 2) (Operand.tmp 26), guard := none }]).seq IC.ret)))
theorem ic17_eq : Tryd.f17.body.map comp = some ic17 := by kernel_rfl
theorem ic17_ok : Tryd.f17.body.map (okC Tryd.f17.ntmps) = some true := by kernel_rfl
theorem ic17_nm : (Tryd.f17.name != "runtime.NumGoroutine") = true := by kernel_rfl
@[simp] theorem ic17_n : Tryd.f17.ntmps = 27 := by kernel_rfl
@[simp] theorem ic17_r : Tryd.f17.results.toList = [ResultVar.cell 2 45] := by kernel_rfl

def ic18 : IC :=
  (IC.ops [{ dst := some 2, op := Op.assign (Operand.const (Value.bool false)), guard := none }]).seq
  ((IC.ops [{ dst := some 3, op := Op.assign (Operand.const (Value.int IntKind.i64 (Int.ofNat 0))), guard := none }]).seq
    (((IC.ops
              [{ dst := some 6, op := Op.move (Operand.tmp 0), guard := none },
                { dst := some 7, op := Op.call { callee := Callee.builtin Builtin.len, args := { toList := [Operand.tmp 6] }, argTypes := { toList := [27] } }, guard := none },
                { dst := some 8, op := Op.move (Operand.const (Value.int IntKind.i64 (Int.ofNat 0))), guard := none }]).seq
          (IC.block 0
            ((IC.ops [{ dst := some 9, op := Op.binOp BinOp.lss 3 (Operand.tmp 8) (Operand.tmp 7) 3, guard := none }]).seq
                ((IC.cond (Operand.tmp 9) IC.skip (IC.exit 0)).seq
                  ((IC.block 1
                        ((IC.ops
                              [{ dst := some 10, op := Op.indexAddr 27 (Operand.tmp 6) (Operand.tmp 8), guard := none }, { dst := some 11, op := Op.load 45 (Operand.tmp 10), guard := none },
                                { dst := some 5, op := Op.alloc 45, guard := none }, { dst := none, op := Op.store 45 (Operand.tmp 5) (Operand.tmp 11), guard := none }]).seq
                          (((IC.ops
                                    [{ dst := some 12, op := Op.fieldAddr 45 (Operand.tmp 5) 0, guard := none }, { dst := some 13, op := Op.load 43 (Operand.tmp 12), guard := none },
                                      { dst := some 14, op := Op.move (Operand.tmp 3), guard := none },
                                      { dst := some 15, op := Op.binOp BinOp.leq 43 (Operand.tmp 13) (Operand.tmp 14) 43, guard := none },
                                      { dst := some 16, op := Op.move (Operand.tmp 15), guard := none }, { dst := some 17, op := Op.fieldAddr 45 (Operand.tmp 5) 0, guard := some (some 16, false) },
                                      { dst := some 18, op := Op.load 43 (Operand.tmp 17), guard := some (some 16, false) },
                                      { dst := some 19, op := Op.binOp BinOp.gtr 43 (Operand.tmp 18) (Operand.const (Value.int IntKind.i64 (Int.ofNat 11))) 43, guard := some (some 16, false) },
                                      { dst := some 20, op := Op.pick (Operand.tmp 16) (Operand.const (Value.bool true)) (Operand.tmp 19), guard := none },
                                      { dst := some 21, op := Op.move (Operand.tmp 20), guard := none }, { dst := some 22, op := Op.fieldAddr 45 (Operand.tmp 5) 1, guard := some (some 21, false) },
                                      { dst := some 23, op := Op.load 3 (Operand.tmp 22), guard := some (some 21, false) },
                                      { dst := some 24, op := Op.binOp BinOp.lss 3 (Operand.tmp 23) (Operand.const (Value.int IntKind.i64 (Int.ofNat 0))) 3, guard := some (some 21, false) },
                                      { dst := some 25, op := Op.pick (Operand.tmp 21) (Operand.const (Value.bool true)) (Operand.tmp 24), guard := none },
                                      { dst := some 26, op := Op.move (Operand.tmp 25), guard := none }, { dst := some 27, op := Op.fieldAddr 45 (Operand.tmp 5) 1, guard := some (some 26, false) },
                                      { dst := some 28, op := Op.load 3 (Operand.tmp 27), guard := some (some 26, false) },
                                      { dst := some 29, op := Op.binOp BinOp.gtr 3 (Operand.tmp 28) (Operand.const (Value.int IntKind.i64 (Int.ofNat 1099511627775))) 3,
                                        guard := some (some 26, false) },
                                      { dst := some 30, op := Op.pick (Operand.tmp 26) (Operand.const (Value.bool true)) (Operand.tmp 29), guard := none }]).seq
                                (IC.cond (Operand.tmp 30) ((IC.ops [{ dst := some 2, op := Op.assign (Operand.const (Value.bool false)), guard := none }]).seq IC.ret) IC.skip)).seq
                            (IC.ops
                              [{ dst := some 31, op := Op.fieldAddr 45 (Operand.tmp 5) 0, guard := none }, { dst := some 32, op := Op.load 43 (Operand.tmp 31), guard := none },
                                { dst := some 3, op := Op.assign (Operand.tmp 32), guard := none }])))).seq
                    (IC.ops
                      [{ dst := some 33, op := Op.binOp BinOp.add 3 (Operand.tmp 8) (Operand.const (Value.int IntKind.i64 (Int.ofNat 1))) 3, guard := none },
                        { dst := some 8, op := Op.move (Operand.tmp 33), guard := none }])))).loop)).seq
      ((IC.ops [{ dst := some 2, op := Op.assign (Operand.const (Value.bool true)), guard := none }]).seq IC.ret)))
theorem ic18_eq : Tryd.f18.body.map comp = some ic18 := by kernel_rfl
theorem ic18_ok : Tryd.f18.body.map (okC Tryd.f18.ntmps) = some true := by kernel_rfl
theorem ic18_nm : (Tryd.f18.name != "runtime.NumGoroutine") = true := by kernel_rfl
@[simp] theorem ic18_n : Tryd.f18.ntmps = 34 := by kernel_rfl
@[simp] theorem ic18_r : Tryd.f18.results.toList = [ResultVar.tmp 2] := by kernel_rfl

def ic19 : IC :=
  (IC.ops [{ dst := some 2, op := Op.assign (Operand.const (Value.bool false)), guard := none }]).seq
  (((IC.ops
            [{ dst := some 4, op := Op.move (Operand.tmp 0), guard := none },
              { dst := some 5, op := Op.call { callee := Callee.builtin Builtin.len, args := { toList := [Operand.tmp 4] }, argTypes := { toList := [27] } }, guard := none },
              { dst := some 6, op := Op.move (Operand.const (Value.int IntKind.i64 (Int.ofNat 0))), guard := none }]).seq
        (IC.block 0
          ((IC.ops [{ dst := some 7, op := Op.binOp BinOp.lss 3 (Operand.tmp 6) (Operand.tmp 5) 3, guard := none }]).seq
              ((IC.cond (Operand.tmp 7) IC.skip (IC.exit 0)).seq
                ((IC.block 1
                      ((IC.ops [{ dst := some 8, op := Op.move (Operand.tmp 6), guard := none }, { dst := some 3, op := Op.assign (Operand.tmp 8), guard := none }]).seq
                        ((IC.opsD
                              [{ dst := some 9, op := Op.move (Operand.tmp 0), guard := none }, { dst := some 10, op := Op.move (Operand.tmp 3), guard := none },
                                { dst := some 11, op := Op.indexAddr 27 (Operand.tmp 9) (Operand.tmp 10), guard := none, bef := [0, 1] },
                                { dst := some 12, op := Op.fieldAddr 45 (Operand.tmp 11) 0, guard := none, bef := [2, 0, 1] },
                                { dst := some 13, op := Op.load 43 (Operand.tmp 12), guard := none, bef := [3, 2, 0, 1] },
                                { dst := some 14, op := Op.call { callee := Callee.value (Operand.func 26), args := { toList := [Operand.tmp 13] }, argTypes := { toList := [43] } }, guard := none,
                                  bef := [4, 3, 2, 0, 1] },
                                { dst := some 15, op := Op.unOp UnOp.not 4 (Operand.tmp 14), guard := none, bef := [5, 4, 3, 2, 0, 1] },
                                { dst := some 16, op := Op.move (Operand.tmp 15), guard := none, bef := [6, 5, 4, 3, 2, 0, 1] },
                                { dst := some 17, op := Op.move (Operand.tmp 0), guard := some (some 16, false), bef := [7, 6, 5, 4, 3, 2, 0, 1] },
                                { dst := some 18, op := Op.move (Operand.tmp 3), guard := some (some 16, false), bef := [7, 6, 5, 4, 3, 2, 0, 1] },
                                { dst := some 19, op := Op.indexAddr 27 (Operand.tmp 17) (Operand.tmp 18), guard := some (some 16, false), bef := [8, 7, 6, 5, 4, 3, 2, 0, 1, 9] },
                                { dst := some 20, op := Op.fieldAddr 45 (Operand.tmp 19) 1, guard := some (some 16, false), bef := [10, 8, 7, 6, 5, 4, 3, 2, 0, 1, 9] },
                                { dst := some 21, op := Op.load 3 (Operand.tmp 20), guard := some (some 16, false), bef := [11, 10, 8, 7, 6, 5, 4, 3, 2, 0, 1, 9] },
                                { dst := some 22, op := Op.binOp BinOp.lss 3 (Operand.tmp 21) (Operand.const (Value.int IntKind.i64 (Int.ofNat 0))) 3, guard := some (some 16, false),
                                  bef := [12, 11, 10, 8, 7, 6, 5, 4, 3, 2, 0, 1, 9] },
                                { dst := some 23, op := Op.pick (Operand.tmp 16) (Operand.const (Value.bool true)) (Operand.tmp 22), guard := none,
                                  bef := [7, 6, 5, 4, 3, 2, 0, 1, 13, 12, 11, 10, 8, 9] },
                                { dst := some 24, op := Op.move (Operand.tmp 23), guard := none, bef := [14, 7, 6, 5, 4, 3, 2, 0, 1, 13, 12, 11, 10, 8, 9] },
                                { dst := some 25, op := Op.move (Operand.tmp 0), guard := some (some 24, false), bef := [15, 14, 7, 6, 5, 4, 3, 2, 0, 1, 13, 12, 11, 10, 8, 9] },
                                { dst := some 26, op := Op.move (Operand.tmp 3), guard := some (some 24, false), bef := [15, 14, 7, 6, 5, 4, 3, 2, 0, 1, 13, 12, 11, 10, 8, 9] },
                                { dst := some 27, op := Op.indexAddr 27 (Operand.tmp 25) (Operand.tmp 26), guard := some (some 24, false),
                                  bef := [16, 15, 14, 7, 6, 5, 4, 3, 2, 0, 1, 13, 12, 11, 10, 8, 9, 17] },
                                { dst := some 28, op := Op.fieldAddr 45 (Operand.tmp 27) 1, guard := some (some 24, false), bef := [18, 16, 15, 14, 7, 6, 5, 4, 3, 2, 0, 1, 13, 12, 11, 10, 8, 9, 17] },
                                { dst := some 29, op := Op.load 3 (Operand.tmp 28), guard := some (some 24, false), bef := [19, 18, 16, 15, 14, 7, 6, 5, 4, 3, 2, 0, 1, 13, 12, 11, 10, 8, 9, 17] },
                                { dst := some 30, op := Op.binOp BinOp.gtr 3 (Operand.tmp 29) (Operand.const (Value.int IntKind.i64 (Int.ofNat 1099511627775))) 3, guard := some (some 24, false),
                                  bef := [20, 19, 18, 16, 15, 14, 7, 6, 5, 4, 3, 2, 0, 1, 13, 12, 11, 10, 8, 9, 17] },
                                { dst := some 31, op := Op.pick (Operand.tmp 24) (Operand.const (Value.bool true)) (Operand.tmp 30), guard := none,
                                  bef := [15, 14, 7, 6, 5, 4, 3, 2, 0, 1, 13, 12, 11, 10, 8, 9, 21, 20, 19, 18, 16, 17] },
                                { dst := some 32, op := Op.move (Operand.tmp 31), guard := none, bef := [22, 15, 14, 7, 6, 5, 4, 3, 2, 0, 1, 13, 12, 11, 10, 8, 9, 21, 20, 19, 18, 16, 17] },
                                { dst := some 33, op := Op.move (Operand.tmp 3), guard := some (some 32, false),
                                  bef := [23, 22, 15, 14, 7, 6, 5, 4, 3, 2, 0, 1, 13, 12, 11, 10, 8, 9, 21, 20, 19, 18, 16, 17] },
                                { dst := some 34, op := Op.binOp BinOp.gtr 3 (Operand.tmp 33) (Operand.const (Value.int IntKind.i64 (Int.ofNat 0))) 3, guard := some (some 32, false),
                                  bef := [24, 23, 22, 15, 14, 7, 6, 5, 4, 3, 2, 0, 1, 13, 12, 11, 10, 8, 9, 21, 20, 19, 18, 16, 17] },
                                { dst := some 35, op := Op.move (Operand.tmp 34), guard := some (some 32, false),
                                  bef := [25, 24, 23, 22, 15, 14, 7, 6, 5, 4, 3, 2, 0, 1, 13, 12, 11, 10, 8, 9, 21, 20, 19, 18, 16, 17] },
                                { dst := some 36, op := Op.move (Operand.tmp 0), guard := some (some 35, true),
                                  bef := [26, 25, 24, 23, 22, 15, 14, 7, 6, 5, 4, 3, 2, 0, 1, 13, 12, 11, 10, 8, 9, 21, 20, 19, 18, 16, 17] },
                                { dst := some 37, op := Op.move (Operand.tmp 3), guard := some (some 35, true),
                                  bef := [26, 25, 24, 23, 22, 15, 14, 7, 6, 5, 4, 3, 2, 0, 1, 13, 12, 11, 10, 8, 9, 21, 20, 19, 18, 16, 17] },
                                { dst := some 38, op := Op.indexAddr 27 (Operand.tmp 36) (Operand.tmp 37), guard := some (some 35, true),
                                  bef := [27, 26, 25, 24, 23, 22, 15, 14, 7, 6, 5, 4, 3, 2, 0, 1, 13, 12, 11, 10, 8, 9, 21, 20, 19, 18, 16, 17, 28] },
                                { dst := some 39, op := Op.fieldAddr 45 (Operand.tmp 38) 0, guard := some (some 35, true),
                                  bef := [29, 27, 26, 25, 24, 23, 22, 15, 14, 7, 6, 5, 4, 3, 2, 0, 1, 13, 12, 11, 10, 8, 9, 21, 20, 19, 18, 16, 17, 28] },
                                { dst := some 40, op := Op.load 43 (Operand.tmp 39), guard := some (some 35, true),
                                  bef := [30, 29, 27, 26, 25, 24, 23, 22, 15, 14, 7, 6, 5, 4, 3, 2, 0, 1, 13, 12, 11, 10, 8, 9, 21, 20, 19, 18, 16, 17, 28] },
                                { dst := some 41, op := Op.move (Operand.tmp 0), guard := some (some 35, true),
                                  bef := [26, 25, 24, 23, 22, 15, 14, 7, 6, 5, 4, 3, 2, 0, 1, 13, 12, 11, 10, 8, 9, 21, 20, 19, 18, 16, 17] },
                                { dst := some 42, op := Op.move (Operand.tmp 3), guard := some (some 35, true),
                                  bef := [26, 25, 24, 23, 22, 15, 14, 7, 6, 5, 4, 3, 2, 0, 1, 13, 12, 11, 10, 8, 9, 21, 20, 19, 18, 16, 17] },
                                { dst := some 43, op := Op.binOp BinOp.sub 3 (Operand.tmp 42) (Operand.const (Value.int IntKind.i64 (Int.ofNat 1))) 3, guard := some (some 35, true),
                                  bef := [33, 26, 25, 24, 23, 22, 15, 14, 7, 6, 5, 4, 3, 2, 0, 1, 13, 12, 11, 10, 8, 9, 21, 20, 19, 18, 16, 17] },
                                { dst := some 44, op := Op.indexAddr 27 (Operand.tmp 41) (Operand.tmp 43), guard := some (some 35, true),
                                  bef := [32, 26, 25, 24, 23, 22, 15, 14, 7, 6, 5, 4, 3, 2, 0, 1, 13, 12, 11, 10, 8, 9, 21, 20, 19, 18, 16, 17, 34, 33] },
                                { dst := some 45, op := Op.fieldAddr 45 (Operand.tmp 44) 0, guard := some (some 35, true),
                                  bef := [35, 32, 26, 25, 24, 23, 22, 15, 14, 7, 6, 5, 4, 3, 2, 0, 1, 13, 12, 11, 10, 8, 9, 21, 20, 19, 18, 16, 17, 34, 33] },
                                { dst := some 46, op := Op.load 43 (Operand.tmp 45), guard := some (some 35, true),
                                  bef := [36, 35, 32, 26, 25, 24, 23, 22, 15, 14, 7, 6, 5, 4, 3, 2, 0, 1, 13, 12, 11, 10, 8, 9, 21, 20, 19, 18, 16, 17, 34, 33] },
                                { dst := some 47, op := Op.binOp BinOp.leq 43 (Operand.tmp 40) (Operand.tmp 46) 43, guard := some (some 35, true),
                                  bef := [31, 30, 29, 27, 26, 25, 24, 23, 22, 15, 14, 7, 6, 5, 4, 3, 2, 0, 1, 13, 12, 11, 10, 8, 9, 21, 20, 19, 18, 16, 17, 28, 37, 36, 35, 32, 34, 33] },
                                { dst := some 48, op := Op.pick (Operand.tmp 35) (Operand.tmp 47) (Operand.const (Value.bool false)), guard := some (some 32, false),
                                  bef := [26, 25, 24, 23, 22, 15, 14, 7, 6, 5, 4, 3, 2, 0, 1, 13, 12, 11, 10, 8, 9, 21, 20, 19, 18, 16, 17, 38, 31, 30, 29, 27, 28, 37, 36, 35, 32, 34, 33] },
                                { dst := some 49, op := Op.pick (Operand.tmp 32) (Operand.const (Value.bool true)) (Operand.tmp 48), guard := none,
                                  bef := [23, 22, 15, 14, 7, 6, 5, 4, 3, 2, 0, 1, 13, 12, 11, 10, 8, 9, 21, 20, 19, 18, 16, 17, 39, 26, 25, 24, 38, 31, 30, 29, 27, 28, 37, 36, 35, 32, 34, 33] }]).seq
                          (IC.cond (Operand.tmp 49) ((IC.ops [{ dst := some 2, op := Op.assign (Operand.const (Value.bool false)), guard := none }]).seq IC.ret) IC.skip)))).seq
                  (IC.ops
                    [{ dst := some 50, op := Op.binOp BinOp.add 3 (Operand.tmp 6) (Operand.const (Value.int IntKind.i64 (Int.ofNat 1))) 3, guard := none },
                      { dst := some 6, op := Op.move (Operand.tmp 50), guard := none }])))).loop)).seq
    ((IC.ops [{ dst := some 2, op := Op.assign (Operand.const (Value.bool true)), guard := none }]).seq IC.ret))
theorem ic19_eq : Tryd.f19.body.map comp = some ic19 := by kernel_rfl
theorem ic19_ok : Tryd.f19.body.map (okC Tryd.f19.ntmps) = some true := by kernel_rfl
theorem ic19_nm : (Tryd.f19.name != "runtime.NumGoroutine") = true := by kernel_rfl
@[simp] theorem ic19_n : Tryd.f19.ntmps = 51 := by kernel_rfl
@[simp] theorem ic19_r : Tryd.f19.results.toList = [ResultVar.tmp 2] := by kernel_rfl

def ic20 : IC :=
  (IC.ops [{ dst := some 2, op := Op.assign (Operand.const (Value.slice none 0 0)), guard := none }]).seq
  ((IC.ops [{ dst := some 3, op := Op.assign (Operand.const (Value.slice none 0 0)), guard := none }]).seq
    ((IC.ops [{ dst := some 4, op := Op.alloc 61, guard := none }]).seq
      ((IC.block 0
            (((IC.ops
                        [{ dst := some 5, op := Op.move (Operand.tmp 0), guard := none }, { dst := some 6, op := Op.makeInterface 63 (Operand.tmp 4), guard := none },
                          { dst := some 7, op := Op.call { callee := Callee.value (Operand.func 27), args := { toList := [Operand.tmp 5, Operand.tmp 6] }, argTypes := { toList := [29, 20] } },
                            guard := none }]).seq
                    (IC.cond (Operand.tmp 7) IC.skip (IC.exit 0))).seq
                (IC.block 1
                  ((IC.ops
                        [{ dst := some 8, op := Op.move (Operand.tmp 3), guard := none }, { dst := some 9, op := Op.fieldAddr 61 (Operand.tmp 4) 0, guard := none },
                          { dst := some 10, op := Op.load 9 (Operand.tmp 9), guard := none }, { dst := some 11, op := Op.buildSlice 52 1 { toList := [(0, Operand.tmp 10)] }, guard := none },
                          { dst := some 12, op := Op.call { callee := Callee.builtin Builtin.append, args := { toList := [Operand.tmp 8, Operand.tmp 11] }, argTypes := { toList := [52, 52] } },
                            guard := none },
                          { dst := some 3, op := Op.assign (Operand.tmp 12), guard := none }]).seq
                    (IC.ops
                      [{ dst := some 13, op := Op.fieldAddr 61 (Operand.tmp 4) 1, guard := none }, { dst := some 14, op := Op.load 29 (Operand.tmp 13), guard := none },
                        { dst := some 0, op := Op.assign (Operand.tmp 14), guard := none }])))).loop).seq
        ((IC.ops [{ dst := some 15, op := Op.move (Operand.tmp 3), guard := none }, { dst := some 2, op := Op.assign (Operand.tmp 15), guard := none }]).seq IC.ret))))
theorem ic20_eq : Tryd.f20.body.map comp = some ic20 := by kernel_rfl
theorem ic20_ok : Tryd.f20.body.map (okC Tryd.f20.ntmps) = some true := by kernel_rfl
theorem ic20_nm : (Tryd.f20.name != "runtime.NumGoroutine") = true := by kernel_rfl
@[simp] theorem ic20_n : Tryd.f20.ntmps = 16 := by kernel_rfl
@[simp] theorem ic20_r : Tryd.f20.results.toList = [ResultVar.tmp 2] := by kernel_rfl

def ic21 : IC :=
  (IC.ops [{ dst := some 2, op := Op.alloc 45, guard := none }, { dst := some 3, op := Op.assign (Operand.const (Value.bool false)), guard := none }]).seq
  ((IC.ops [{ dst := some 4, op := Op.alloc 65, guard := none }]).seq
    (((IC.ops
              [{ dst := some 5, op := Op.move (Operand.tmp 0), guard := none }, { dst := some 6, op := Op.makeInterface 66 (Operand.tmp 4), guard := none },
                { dst := some 7, op := Op.call { callee := Callee.value (Operand.func 27), args := { toList := [Operand.tmp 5, Operand.tmp 6] }, argTypes := { toList := [29, 20] } }, guard := none },
                { dst := some 8, op := Op.unOp UnOp.not 4 (Operand.tmp 7), guard := none }]).seq
          (IC.cond (Operand.tmp 8)
            ((IC.ops
                  [{ dst := some 9, op := Op.build 45 { toList := [] }, guard := none }, { dst := none, op := Op.store 45 (Operand.tmp 2) (Operand.tmp 9), guard := none },
                    { dst := some 3, op := Op.assign (Operand.const (Value.bool false)), guard := none }]).seq
              IC.ret)
            IC.skip)).seq
      ((IC.ops
            [{ dst := some 10, op := Op.fieldAddr 65 (Operand.tmp 4) 0, guard := none }, { dst := some 11, op := Op.load 45 (Operand.tmp 10), guard := none },
              { dst := none, op := Op.store 45 (Operand.tmp 2) (Operand.tmp 11), guard := none }, { dst := some 3, op := Op.assign (Operand.const (Value.bool true)), guard := none }]).seq
        IC.ret)))
theorem ic21_eq : Tryd.f21.body.map comp = some ic21 := by kernel_rfl
theorem ic21_ok : Tryd.f21.body.map (okC Tryd.f21.ntmps) = some true := by kernel_rfl
theorem ic21_nm : (Tryd.f21.name != "runtime.NumGoroutine") = true := by kernel_rfl
@[simp] theorem ic21_n : Tryd.f21.ntmps = 12 := by kernel_rfl
@[simp] theorem ic21_r : Tryd.f21.results.toList = [ResultVar.cell 2 45, ResultVar.tmp 3] := by kernel_rfl

def ic22 : IC :=
  (IC.ops [{ dst := some 2, op := Op.assign (Operand.const (Value.slice none 0 0)), guard := none }]).seq
  ((IC.ops
        [{ dst := some 4, op := Op.move (Operand.tmp 0), guard := none },
          { dst := some 5, op := Op.call { callee := Callee.value (Operand.func 7), args := { toList := [Operand.tmp 4] }, argTypes := { toList := [22] } }, guard := none },
          { dst := some 3, op := Op.assign (Operand.tmp 5), guard := none }]).seq
    ((IC.ops
          [{ dst := some 6, op := Op.buildSlice 22 0 { toList := [] }, guard := none }, { dst := some 7, op := Op.move (Operand.tmp 0), guard := none },
            { dst := some 8, op := Op.call { callee := Callee.builtin Builtin.append, args := { toList := [Operand.tmp 6, Operand.tmp 7] }, argTypes := { toList := [22, 22] } }, guard := none },
            { dst := some 9, op := Op.move (Operand.tmp 3), guard := none },
            { dst := some 10, op := Op.binOp BinOp.quo 3 (Operand.tmp 9) (Operand.const (Value.int IntKind.i64 (Int.ofNat 256))) 3, guard := none },
            { dst := some 11, op := Op.convert 3 5 (Operand.tmp 10), guard := none }, { dst := some 12, op := Op.move (Operand.tmp 3), guard := none },
            { dst := some 13, op := Op.binOp BinOp.rem 3 (Operand.tmp 12) (Operand.const (Value.int IntKind.i64 (Int.ofNat 256))) 3, guard := none },
            { dst := some 14, op := Op.convert 3 5 (Operand.tmp 13), guard := none },
            { dst := some 15, op := Op.buildSlice 22 2 { toList := [(0, Operand.tmp 11), (1, Operand.tmp 14)] }, guard := none },
            { dst := some 16, op := Op.call { callee := Callee.builtin Builtin.append, args := { toList := [Operand.tmp 8, Operand.tmp 15] }, argTypes := { toList := [22, 22] } }, guard := none },
            { dst := some 2, op := Op.assign (Operand.tmp 16), guard := none }]).seq
      IC.ret))
theorem ic22_eq : Tryd.f22.body.map comp = some ic22 := by kernel_rfl
theorem ic22_ok : Tryd.f22.body.map (okC Tryd.f22.ntmps) = some true := by kernel_rfl
theorem ic22_nm : (Tryd.f22.name != "runtime.NumGoroutine") = true := by kernel_rfl
@[simp] theorem ic22_n : Tryd.f22.ntmps = 17 := by kernel_rfl
@[simp] theorem ic22_r : Tryd.f22.results.toList = [ResultVar.tmp 2] := by kernel_rfl

def ic23 : IC :=
  (IC.ops [{ dst := some 4, op := Op.assign (Operand.const Value.nilIface), guard := none }]).seq
  (((IC.ops [{ dst := some 5, op := Op.move (Operand.tmp 1), guard := none }, { dst := some 6, op := Op.binOp BinOp.eql 29 (Operand.tmp 5) (Operand.const Value.nilIface) 29, guard := none }]).seq
        (IC.cond (Operand.tmp 6) ((IC.ops [{ dst := some 4, op := Op.assign (Operand.const Value.nilIface), guard := none }]).seq IC.ret) IC.skip)).seq
    ((IC.ops
          [{ dst := some 7, op := Op.move (Operand.tmp 0), guard := none }, { dst := some 8, op := Op.move (Operand.tmp 1), guard := none },
            { dst := some 9, op := Op.build 61 { toList := [(0, Operand.tmp 7), (1, Operand.tmp 8)] }, guard := none }, { dst := some 10, op := Op.makeInterface 61 (Operand.tmp 9), guard := none },
            { dst := some 4, op := Op.assign (Operand.tmp 10), guard := none }]).seq
      IC.ret))
theorem ic23_eq : Tryd.f23.body.map comp = some ic23 := by kernel_rfl
theorem ic23_ok : Tryd.f23.body.map (okC Tryd.f23.ntmps) = some true := by kernel_rfl
theorem ic23_nm : (Tryd.f23.name != "runtime.NumGoroutine") = true := by kernel_rfl
@[simp] theorem ic23_n : Tryd.f23.ntmps = 11 := by kernel_rfl
@[simp] theorem ic23_r : Tryd.f23.results.toList = [ResultVar.tmp 4] := by kernel_rfl

def ic24 : IC :=
  (IC.ops [{ dst := some 4, op := Op.assign (Operand.const Value.nilIface), guard := none }]).seq
  (((IC.ops
            [{ dst := some 5, op := Op.move (Operand.tmp 0), guard := none },
              { dst := some 6, op := Op.call { callee := Callee.value (Operand.func 28), args := { toList := [Operand.tmp 5] }, argTypes := { toList := [43] } }, guard := none },
              { dst := some 7, op := Op.unOp UnOp.not 4 (Operand.tmp 6), guard := none }]).seq
        (IC.cond (Operand.tmp 7) ((IC.ops [{ dst := some 4, op := Op.assign (Operand.const Value.nilIface), guard := none }]).seq IC.ret) IC.skip)).seq
    ((IC.ops
          [{ dst := some 8, op := Op.move (Operand.tmp 0), guard := none }, { dst := some 9, op := Op.move (Operand.tmp 1), guard := none },
            { dst := some 10,
              op :=
                Op.call
                  { callee := Callee.builtin Builtin.min, args := { toList := [Operand.tmp 9, Operand.const (Value.int IntKind.i64 (Int.ofNat 1099511627775))] }, argTypes := { toList := [3, 3] } },
              guard := none },
            { dst := some 11,
              op := Op.call { callee := Callee.builtin Builtin.max, args := { toList := [Operand.const (Value.int IntKind.i64 (Int.ofNat 0)), Operand.tmp 10] }, argTypes := { toList := [3, 3] } },
              guard := none },
            { dst := some 12, op := Op.build 45 { toList := [(0, Operand.tmp 8), (1, Operand.tmp 11)] }, guard := none },
            { dst := some 13, op := Op.build 65 { toList := [(0, Operand.tmp 12)] }, guard := none }, { dst := some 14, op := Op.makeInterface 65 (Operand.tmp 13), guard := none },
            { dst := some 4, op := Op.assign (Operand.tmp 14), guard := none }]).seq
      IC.ret))
theorem ic24_eq : Tryd.f24.body.map comp = some ic24 := by kernel_rfl
theorem ic24_ok : Tryd.f24.body.map (okC Tryd.f24.ntmps) = some true := by kernel_rfl
theorem ic24_nm : (Tryd.f24.name != "runtime.NumGoroutine") = true := by kernel_rfl
@[simp] theorem ic24_n : Tryd.f24.ntmps = 15 := by kernel_rfl
@[simp] theorem ic24_r : Tryd.f24.results.toList = [ResultVar.tmp 4] := by kernel_rfl

def ic25 : IC :=
  (IC.ops [{ dst := some 4, op := Op.assign (Operand.const (Value.int IntKind.i64 (Int.ofNat 0))), guard := none }]).seq
  (IC.block 0
    (((IC.ops
                [{ dst := some 6, op := Op.move (Operand.tmp 4), guard := none }, { dst := some 7, op := Op.load 22 (Operand.tmp 1), guard := none },
                  { dst := some 8, op := Op.call { callee := Callee.builtin Builtin.len, args := { toList := [Operand.tmp 7] }, argTypes := { toList := [22] } }, guard := none },
                  { dst := some 9, op := Op.binOp BinOp.lss 3 (Operand.tmp 6) (Operand.tmp 8) 3, guard := none }]).seq
            (IC.cond (Operand.tmp 9) IC.skip (IC.exit 0))).seq
        ((IC.block 1
              ((IC.opsD
                    [{ dst := some 13, op := Op.load 3 (Operand.tmp 2), guard := none }, { dst := some 14, op := Op.load 22 (Operand.tmp 1), guard := none },
                      { dst := some 15, op := Op.move (Operand.tmp 4), guard := none },
                      { dst := some 16, op := Op.slice 22 (Operand.tmp 14) (some (Operand.tmp 15)) none none, guard := none, bef := [1, 2] },
                      { dst := some 17, op := Op.call { callee := Callee.builtin Builtin.len, args := { toList := [Operand.tmp 16] }, argTypes := { toList := [22] } }, guard := none,
                        bef := [3, 1, 2] },
                      { dst := some 18, op := Op.call { callee := Callee.builtin Builtin.min, args := { toList := [Operand.tmp 13, Operand.tmp 17] }, argTypes := { toList := [3, 3] } }, guard := none,
                        bef := [0, 4, 3, 1, 2] },
                      { dst := some 5, op := Op.assign (Operand.tmp 18), guard := none, bef := [5, 0, 4, 3, 1, 2] }]).seq
                ((IC.ops
                      [{ dst := some 19, op := Op.move (Operand.tmp 0), guard := none }, { dst := some 20, op := Op.load 22 (Operand.tmp 1), guard := none },
                        { dst := some 21, op := Op.move (Operand.tmp 4), guard := none }, { dst := some 22, op := Op.move (Operand.tmp 4), guard := none },
                        { dst := some 23, op := Op.move (Operand.tmp 5), guard := none }, { dst := some 24, op := Op.binOp BinOp.add 3 (Operand.tmp 22) (Operand.tmp 23) 3, guard := none },
                        { dst := some 25, op := Op.move (Operand.tmp 4), guard := none }, { dst := some 26, op := Op.move (Operand.tmp 5), guard := none },
                        { dst := some 27, op := Op.binOp BinOp.add 3 (Operand.tmp 25) (Operand.tmp 26) 3, guard := none },
                        { dst := some 28, op := Op.slice 22 (Operand.tmp 20) (some (Operand.tmp 21)) (some (Operand.tmp 24)) (some (Operand.tmp 27)), guard := none },
                        { dst := some 29, op := Op.call { callee := Callee.value (Operand.tmp 19), args := { toList := [Operand.tmp 28] }, argTypes := { toList := [22] } }, guard := none },
                        { dst := some 30, op := Op.unOp UnOp.not 4 (Operand.tmp 29), guard := none }]).seq
                  (IC.cond (Operand.tmp 30) IC.ret IC.skip)))).seq
          (IC.ops
            [{ dst := some 10, op := Op.move (Operand.tmp 4), guard := none }, { dst := some 11, op := Op.load 3 (Operand.tmp 2), guard := none },
              { dst := some 12, op := Op.binOp BinOp.add 3 (Operand.tmp 10) (Operand.tmp 11) 3, guard := none }, { dst := some 4, op := Op.assign (Operand.tmp 12), guard := none }]))).loop)
theorem ic25_eq : Tryd.f25.body.map comp = some ic25 := by kernel_rfl
theorem ic25_ok : Tryd.f25.body.map (okC Tryd.f25.ntmps) = some true := by kernel_rfl
theorem ic25_nm : (Tryd.f25.name != "runtime.NumGoroutine") = true := by kernel_rfl
@[simp] theorem ic25_n : Tryd.f25.ntmps = 31 := by kernel_rfl
@[simp] theorem ic25_r : Tryd.f25.results.toList = [] := by kernel_rfl

def ic26 : IC :=
  (IC.ops [{ dst := some 2, op := Op.assign (Operand.const (Value.bool false)), guard := none }]).seq
  ((IC.ops
        [{ dst := some 3, op := Op.move (Operand.tmp 0), guard := none },
          { dst := some 4, op := Op.binOp BinOp.geq 43 (Operand.tmp 3) (Operand.const (Value.int IntKind.i64 (Int.ofNat 1))) 43, guard := none },
          { dst := some 5, op := Op.move (Operand.tmp 4), guard := none }, { dst := some 6, op := Op.move (Operand.tmp 0), guard := some (some 5, true) },
          { dst := some 7, op := Op.binOp BinOp.leq 43 (Operand.tmp 6) (Operand.const (Value.int IntKind.i64 (Int.ofNat 11))) 43, guard := some (some 5, true) },
          { dst := some 8, op := Op.pick (Operand.tmp 5) (Operand.tmp 7) (Operand.const (Value.bool false)), guard := none }, { dst := some 2, op := Op.assign (Operand.tmp 8), guard := none }]).seq
    IC.ret)
theorem ic26_eq : Tryd.f26.body.map comp = some ic26 := by kernel_rfl
theorem ic26_ok : Tryd.f26.body.map (okC Tryd.f26.ntmps) = some true := by kernel_rfl
theorem ic26_nm : (Tryd.f26.name != "runtime.NumGoroutine") = true := by kernel_rfl
@[simp] theorem ic26_n : Tryd.f26.ntmps = 9 := by kernel_rfl
@[simp] theorem ic26_r : Tryd.f26.results.toList = [ResultVar.tmp 2] := by kernel_rfl

def ic27 : IC :=
  (IC.ops [{ dst := some 4, op := Op.assign (Operand.const (Value.bool false)), guard := none }]).seq
  (((IC.ops [{ dst := some 8, op := Op.move (Operand.tmp 0), guard := none }, { dst := some 9, op := Op.binOp BinOp.eql 29 (Operand.tmp 8) (Operand.const Value.nilIface) 29, guard := none }]).seq
        (IC.cond (Operand.tmp 9) ((IC.ops [{ dst := some 4, op := Op.assign (Operand.const (Value.bool false)), guard := none }]).seq IC.ret) IC.skip)).seq
    (((IC.ops [{ dst := some 10, op := Op.move (Operand.tmp 1), guard := none }, { dst := some 11, op := Op.binOp BinOp.eql 20 (Operand.tmp 10) (Operand.const Value.nilIface) 20, guard := none }]).seq
          (IC.cond (Operand.tmp 11)
            (IC.ops
              [{ dst := some 12,
                  op :=
                    Op.makeInterface 9
                      (Operand.const
                        (Value.string
                          {
                            data :=
                              {
                                toList :=
                                  [101, 114, 114, 111,
                                    114, 115, 58, 32,
                                    116, 97, 114, 103,
                                    101, 116, 32, 99,
                                    97, 110, 110, 111,
                                    116, 32, 98, 101,
                                    32, 110, 105, 108] } })),
                  guard := none },
                { dst := none, op := Op.panic (Operand.tmp 12), guard := none }])
            IC.skip)).seq
      ((IC.ops
            [{ dst := some 13, op := Op.move (Operand.tmp 1), guard := none },
              { dst := some 14, op := Op.call { callee := Callee.value (Operand.func 29), args := { toList := [Operand.tmp 13] }, argTypes := { toList := [20] } }, guard := none },
              { dst := some 5, op := Op.alloc 70, guard := none }, { dst := none, op := Op.store 70 (Operand.tmp 5) (Operand.tmp 14), guard := none }]).seq
        ((IC.ops
              [{ dst := some 15, op := Op.load 70 (Operand.tmp 5), guard := none },
                { dst := some 16, op := Op.call { callee := Callee.value (Operand.func 30), args := { toList := [Operand.tmp 15] }, argTypes := { toList := [70] } }, guard := none },
                { dst := some 6, op := Op.assign (Operand.tmp 16), guard := none }]).seq
          (((IC.ops
                    [{ dst := some 17, op := Op.move (Operand.tmp 6), guard := none },
                      { dst := some 18, op := Op.call { callee := Callee.invoke (Operand.tmp 17) "Kind", args := { toList := [] }, argTypes := { toList := [] } }, guard := none },
                      { dst := some 19, op := Op.binOp BinOp.neq 75 (Operand.tmp 18) (Operand.const (Value.int IntKind.u8 (Int.ofNat 22))) 75, guard := none },
                      { dst := some 20, op := Op.move (Operand.tmp 19), guard := none }, { dst := some 21, op := Op.load 70 (Operand.tmp 5), guard := some (some 20, false) },
                      { dst := some 22, op := Op.call { callee := Callee.value (Operand.func 31), args := { toList := [Operand.tmp 21] }, argTypes := { toList := [70] } },
                        guard := some (some 20, false) },
                      { dst := some 23, op := Op.pick (Operand.tmp 20) (Operand.const (Value.bool true)) (Operand.tmp 22), guard := none }]).seq
                (IC.cond (Operand.tmp 23)
                  (IC.ops
                    [{ dst := some 24,
                        op :=
                          Op.makeInterface 9
                            (Operand.const
                              (Value.string
                                {
                                  data :=
                                    {
                                      toList :=
                                        [101, 114, 114, 111,
                                          114, 115, 58, 32,
                                          116, 97, 114, 103,
                                          101, 116, 32, 109,
                                          117, 115, 116, 32,
                                          98, 101, 32, 97,
                                          32, 110, 111, 110,
                                          45, 110, 105, 108,
                                          32, 112, 111, 105,
                                          110, 116, 101,
                                          114] } })),
                        guard := none },
                      { dst := none, op := Op.panic (Operand.tmp 24), guard := none }])
                  IC.skip)).seq
            ((IC.ops
                  [{ dst := some 25, op := Op.move (Operand.tmp 6), guard := none },
                    { dst := some 26, op := Op.call { callee := Callee.invoke (Operand.tmp 25) "Elem", args := { toList := [] }, argTypes := { toList := [] } }, guard := none },
                    { dst := some 7, op := Op.assign (Operand.tmp 26), guard := none }]).seq
              (((IC.ops
                        [{ dst := some 27, op := Op.move (Operand.tmp 7), guard := none },
                          { dst := some 28, op := Op.call { callee := Callee.invoke (Operand.tmp 27) "Kind", args := { toList := [] }, argTypes := { toList := [] } }, guard := none },
                          { dst := some 29, op := Op.binOp BinOp.neq 75 (Operand.tmp 28) (Operand.const (Value.int IntKind.u8 (Int.ofNat 20))) 75, guard := none },
                          { dst := some 30, op := Op.move (Operand.tmp 29), guard := none }, { dst := some 31, op := Op.move (Operand.tmp 7), guard := some (some 30, true) },
                          { dst := some 32, op := Op.load 73 (Operand.global 0), guard := some (some 30, true) },
                          { dst := some 33, op := Op.call { callee := Callee.invoke (Operand.tmp 31) "Implements", args := { toList := [Operand.tmp 32] }, argTypes := { toList := [73] } },
                            guard := some (some 30, true) },
                          { dst := some 34, op := Op.unOp UnOp.not 4 (Operand.tmp 33), guard := some (some 30, true) },
                          { dst := some 35, op := Op.pick (Operand.tmp 30) (Operand.tmp 34) (Operand.const (Value.bool false)), guard := none }]).seq
                    (IC.cond (Operand.tmp 35)
                      (IC.ops
                        [{ dst := some 36,
                            op :=
                              Op.makeInterface 9
                                (Operand.const
                                  (Value.string
                                    {
                                      data :=
                                        {
                                          toList :=
                                            [101, 114, 114, 111,
                                              114, 115, 58, 32,
                                              42, 116, 97, 114,
                                              103, 101, 116, 32,
                                              109, 117, 115,
                                              116, 32, 98, 101,
                                              32, 105, 110, 116,
                                              101, 114, 102, 97,
                                              99, 101, 32, 111,
                                              114, 32, 105, 109,
                                              112, 108, 101,
                                              109, 101, 110,
                                              116, 32, 101, 114,
                                              114, 111, 114] } })),
                            guard := none },
                          { dst := none, op := Op.panic (Operand.tmp 36), guard := none }])
                      IC.skip)).seq
                ((IC.ops
                      [{ dst := some 37, op := Op.move (Operand.tmp 0), guard := none }, { dst := some 38, op := Op.move (Operand.tmp 1), guard := none },
                        { dst := some 39, op := Op.load 70 (Operand.tmp 5), guard := none }, { dst := some 40, op := Op.move (Operand.tmp 7), guard := none },
                        { dst := some 41,
                          op :=
                            Op.call
                              { callee := Callee.value (Operand.func 32), args := { toList := [Operand.tmp 37, Operand.tmp 38, Operand.tmp 39, Operand.tmp 40] },
                                argTypes := { toList := [29, 20, 70, 73] } },
                          guard := none },
                        { dst := some 4, op := Op.assign (Operand.tmp 41), guard := none }]).seq
                  IC.ret))))))))
theorem ic27_eq : Tryd.f27.body.map comp = some ic27 := by kernel_rfl
theorem ic27_ok : Tryd.f27.body.map (okC Tryd.f27.ntmps) = some true := by kernel_rfl
theorem ic27_nm : (Tryd.f27.name != "runtime.NumGoroutine") = true := by kernel_rfl
@[simp] theorem ic27_n : Tryd.f27.ntmps = 42 := by kernel_rfl
@[simp] theorem ic27_r : Tryd.f27.results.toList = [ResultVar.tmp 4] := by kernel_rfl

def ic28 : IC :=
  (IC.ops [{ dst := some 2, op := Op.assign (Operand.const (Value.bool false)), guard := none }]).seq
  ((IC.ops
        [{ dst := some 3, op := Op.move (Operand.tmp 0), guard := none },
          { dst := some 4, op := Op.binOp BinOp.geq 43 (Operand.tmp 3) (Operand.const (Value.int IntKind.i64 (Int.ofNat 1))) 43, guard := none },
          { dst := some 5, op := Op.move (Operand.tmp 4), guard := none }, { dst := some 6, op := Op.move (Operand.tmp 0), guard := some (some 5, true) },
          { dst := some 7, op := Op.binOp BinOp.leq 43 (Operand.tmp 6) (Operand.const (Value.int IntKind.i64 (Int.ofNat 11))) 43, guard := some (some 5, true) },
          { dst := some 8, op := Op.pick (Operand.tmp 5) (Operand.tmp 7) (Operand.const (Value.bool false)), guard := none }, { dst := some 2, op := Op.assign (Operand.tmp 8), guard := none }]).seq
    IC.ret)
theorem ic28_eq : Tryd.f28.body.map comp = some ic28 := by kernel_rfl
theorem ic28_ok : Tryd.f28.body.map (okC Tryd.f28.ntmps) = some true := by kernel_rfl
theorem ic28_nm : (Tryd.f28.name != "runtime.NumGoroutine") = true := by kernel_rfl
@[simp] theorem ic28_n : Tryd.f28.ntmps = 9 := by kernel_rfl
@[simp] theorem ic28_r : Tryd.f28.results.toList = [ResultVar.tmp 2] := by kernel_rfl

def ic32 : IC :=
  (IC.ops [{ dst := some 6, op := Op.box 70 (Operand.tmp 2), guard := none }, { dst := some 8, op := Op.assign (Operand.const (Value.bool false)), guard := none }]).seq
  (IC.block 0
    (IC.block 1
        (((IC.ops
                  [{ dst := some 16, op := Op.move (Operand.tmp 0), guard := none },
                    { dst := some 17, op := Op.call { callee := Callee.value (Operand.func 33), args := { toList := [Operand.tmp 16] }, argTypes := { toList := [20] } }, guard := none },
                    { dst := some 18, op := Op.move (Operand.tmp 3), guard := none },
                    { dst := some 19, op := Op.call { callee := Callee.invoke (Operand.tmp 17) "AssignableTo", args := { toList := [Operand.tmp 18] }, argTypes := { toList := [73] } },
                      guard := none }]).seq
              (IC.cond (Operand.tmp 19)
                ((IC.ops
                      [{ dst := some 20, op := Op.load 70 (Operand.tmp 6), guard := none },
                        { dst := some 21, op := Op.call { callee := Callee.value (Operand.func 34), args := { toList := [Operand.tmp 20] }, argTypes := { toList := [70] } }, guard := none },
                        { dst := some 22, op := Op.move (Operand.tmp 0), guard := none },
                        { dst := some 23, op := Op.call { callee := Callee.value (Operand.func 29), args := { toList := [Operand.tmp 22] }, argTypes := { toList := [20] } }, guard := none },
                        { dst := some 24, op := Op.call { callee := Callee.value (Operand.func 35), args := { toList := [Operand.tmp 21, Operand.tmp 23] }, argTypes := { toList := [70, 70] } },
                          guard := none }]).seq
                  ((IC.ops [{ dst := some 8, op := Op.assign (Operand.const (Value.bool true)), guard := none }]).seq IC.ret))
                IC.skip)).seq
          (((IC.ops
                    [{ dst := some 26, op := Op.move (Operand.tmp 0), guard := none }, { dst := some 27, op := Op.typeAssert (Operand.tmp 26) 29 85 true, guard := none },
                      { dst := some 25, op := Op.move (Operand.tmp 27), guard := none }, { dst := some 28, op := Op.extract (Operand.tmp 25) 0, guard := none },
                      { dst := some 29, op := Op.extract (Operand.tmp 25) 1, guard := none }, { dst := some 9, op := Op.assign (Operand.tmp 28), guard := none },
                      { dst := some 10, op := Op.assign (Operand.tmp 29), guard := none }]).seq
                ((IC.ops
                      [{ dst := some 30, op := Op.move (Operand.tmp 10), guard := none }, { dst := some 31, op := Op.move (Operand.tmp 30), guard := none },
                        { dst := some 32, op := Op.move (Operand.tmp 9), guard := some (some 31, true) }, { dst := some 33, op := Op.move (Operand.tmp 1), guard := some (some 31, true) },
                        { dst := some 34, op := Op.call { callee := Callee.invoke (Operand.tmp 32) "As", args := { toList := [Operand.tmp 33] }, argTypes := { toList := [20] } },
                          guard := some (some 31, true) },
                        { dst := some 35, op := Op.pick (Operand.tmp 31) (Operand.tmp 34) (Operand.const (Value.bool false)), guard := none }]).seq
                  (IC.cond (Operand.tmp 35) ((IC.ops [{ dst := some 8, op := Op.assign (Operand.const (Value.bool true)), guard := none }]).seq IC.ret) IC.skip))).seq
            ((IC.ops [{ dst := some 36, op := Op.move (Operand.tmp 0), guard := none }]).seq
              (IC.block 2
                ((IC.ops
                      [{ dst := some 37, op := Op.typeAssert (Operand.tmp 36) 29 88 true, guard := none }, { dst := some 38, op := Op.extract (Operand.tmp 37) 1, guard := none },
                        { dst := some 39, op := Op.extract (Operand.tmp 37) 0, guard := none }]).seq
                  (IC.cond (Operand.tmp 38)
                    ((IC.ops [{ dst := some 11, op := Op.assign (Operand.tmp 39), guard := none }]).seq
                      ((IC.ops
                            [{ dst := some 40, op := Op.move (Operand.tmp 11), guard := none },
                              { dst := some 41, op := Op.call { callee := Callee.invoke (Operand.tmp 40) "Unwrap", args := { toList := [] }, argTypes := { toList := [] } }, guard := none },
                              { dst := some 0, op := Op.assign (Operand.tmp 41), guard := none }]).seq
                        ((IC.ops
                              [{ dst := some 42, op := Op.move (Operand.tmp 0), guard := none },
                                { dst := some 43, op := Op.binOp BinOp.eql 29 (Operand.tmp 42) (Operand.const Value.nilIface) 29, guard := none }]).seq
                          (IC.cond (Operand.tmp 43) ((IC.ops [{ dst := some 8, op := Op.assign (Operand.const (Value.bool false)), guard := none }]).seq IC.ret) IC.skip))))
                    ((IC.ops
                          [{ dst := some 44, op := Op.typeAssert (Operand.tmp 36) 29 90 true, guard := none }, { dst := some 45, op := Op.extract (Operand.tmp 44) 1, guard := none },
                            { dst := some 46, op := Op.extract (Operand.tmp 44) 0, guard := none }]).seq
                      (IC.cond (Operand.tmp 45)
                        ((IC.ops [{ dst := some 12, op := Op.assign (Operand.tmp 46), guard := none }]).seq
                          (((IC.ops
                                    [{ dst := some 47, op := Op.move (Operand.tmp 12), guard := none },
                                      { dst := some 48, op := Op.call { callee := Callee.invoke (Operand.tmp 47) "Unwrap", args := { toList := [] }, argTypes := { toList := [] } }, guard := none },
                                      { dst := some 49, op := Op.call { callee := Callee.builtin Builtin.len, args := { toList := [Operand.tmp 48] }, argTypes := { toList := [91] } }, guard := none },
                                      { dst := some 50, op := Op.move (Operand.const (Value.int IntKind.i64 (Int.ofNat 0))), guard := none }]).seq
                                (IC.block 3
                                  ((IC.ops [{ dst := some 51, op := Op.binOp BinOp.lss 3 (Operand.tmp 50) (Operand.tmp 49) 3, guard := none }]).seq
                                      ((IC.cond (Operand.tmp 51) IC.skip (IC.exit 3)).seq
                                        ((IC.block 4
                                              ((IC.ops
                                                    [{ dst := some 52, op := Op.indexAddr 91 (Operand.tmp 48) (Operand.tmp 50), guard := none },
                                                      { dst := some 53, op := Op.load 29 (Operand.tmp 52), guard := none }, { dst := some 14, op := Op.assign (Operand.tmp 53), guard := none }]).seq
                                                (((IC.ops
                                                          [{ dst := some 54, op := Op.move (Operand.tmp 14), guard := none },
                                                            { dst := some 55, op := Op.binOp BinOp.eql 29 (Operand.tmp 54) (Operand.const Value.nilIface) 29, guard := none }]).seq
                                                      (IC.cond (Operand.tmp 55) (IC.exit 4) IC.skip)).seq
                                                  ((IC.ops
                                                        [{ dst := some 56, op := Op.move (Operand.tmp 14), guard := none }, { dst := some 57, op := Op.move (Operand.tmp 1), guard := none },
                                                          { dst := some 58, op := Op.load 70 (Operand.tmp 6), guard := none }, { dst := some 59, op := Op.move (Operand.tmp 3), guard := none },
                                                          { dst := some 60,
                                                            op :=
                                                              Op.call
                                                                { callee := Callee.value (Operand.func 32), args := { toList := [Operand.tmp 56, Operand.tmp 57, Operand.tmp 58, Operand.tmp 59] },
                                                                  argTypes := { toList := [29, 20, 70, 73] } },
                                                            guard := none }]).seq
                                                    (IC.cond (Operand.tmp 60) ((IC.ops [{ dst := some 8, op := Op.assign (Operand.const (Value.bool true)), guard := none }]).seq IC.ret)
                                                      IC.skip))))).seq
                                          (IC.ops
                                            [{ dst := some 61, op := Op.binOp BinOp.add 3 (Operand.tmp 50) (Operand.const (Value.int IntKind.i64 (Int.ofNat 1))) 3, guard := none },
                                              { dst := some 50, op := Op.move (Operand.tmp 61), guard := none }])))).loop)).seq
                            ((IC.ops [{ dst := some 8, op := Op.assign (Operand.const (Value.bool false)), guard := none }]).seq IC.ret)))
                        ((IC.ops [{ dst := some 15, op := Op.assign (Operand.tmp 36), guard := none }]).seq
                          ((IC.ops [{ dst := some 8, op := Op.assign (Operand.const (Value.bool false)), guard := none }]).seq IC.ret))))))))))).loop)
theorem ic32_eq : Tryd.f32.body.map comp = some ic32 := by kernel_rfl
theorem ic32_ok : Tryd.f32.body.map (okC Tryd.f32.ntmps) = some true := by kernel_rfl
theorem ic32_nm : (Tryd.f32.name != "runtime.NumGoroutine") = true := by kernel_rfl
@[simp] theorem ic32_n : Tryd.f32.ntmps = 62 := by kernel_rfl
@[simp] theorem ic32_r : Tryd.f32.results.toList = [ResultVar.tmp 8] := by kernel_rfl

-- f53: no body
-- f54: no body
def ic55 : IC :=
  (IC.ops [{ dst := some 1, op := Op.box 61 (Operand.tmp 0), guard := none }, { dst := some 2, op := Op.assign (Operand.const Value.nilIface), guard := none }]).seq
  ((IC.ops
        [{ dst := some 3, op := Op.fieldAddr 61 (Operand.tmp 1) 1, guard := none }, { dst := some 4, op := Op.load 29 (Operand.tmp 3), guard := none },
          { dst := some 2, op := Op.assign (Operand.tmp 4), guard := none }]).seq
    IC.ret)
theorem ic55_eq : Tryd.f55.body.map comp = some ic55 := by kernel_rfl
theorem ic55_ok : Tryd.f55.body.map (okC Tryd.f55.ntmps) = some true := by kernel_rfl
theorem ic55_nm : (Tryd.f55.name != "runtime.NumGoroutine") = true := by kernel_rfl
@[simp] theorem ic55_n : Tryd.f55.ntmps = 5 := by kernel_rfl
@[simp] theorem ic55_r : Tryd.f55.results.toList = [ResultVar.tmp 2] := by kernel_rfl

-- f56: no body
-- f72: no body

end Go.Proofs.YtfhpojedoijghaaDoor
