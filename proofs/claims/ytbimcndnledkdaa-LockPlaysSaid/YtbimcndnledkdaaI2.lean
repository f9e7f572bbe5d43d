/- Contracts of functions of the seat's program, and what follows of them: I2. Conditions are in each statement. -/
import Derived.Test.YtbimcndnledkdaaRows
import Derived.Test.YtbimcndnledkdaaV3
set_option linter.unusedSimpArgs false
set_option linter.unusedVariables false
namespace Go.Proofs.Ytbimcndnledkdaa
open Go Go.Proofs Go.Vm

def ic27 : IC :=
  (IC.ops [{ dst := some 3, op := Op.box 26 (Operand.tmp 0), guard := none }, { dst := some 6, op := Op.assign (Operand.const (Value.bool false)), guard := none }]).seq
  ((IC.ops
        [{ dst := some 7, op := Op.move (Operand.tmp 1), guard := none },
          { dst := some 8, op := Op.binOp BinOp.geq 3 (Operand.tmp 7) (Operand.const (Value.int IntKind.i64 (Int.ofNat 0))) 3, guard := none },
          { dst := some 9, op := Op.move (Operand.tmp 8), guard := none }, { dst := some 10, op := Op.move (Operand.tmp 1), guard := some (some 9, true) },
          { dst := some 11, op := Op.fieldAddr 26 (Operand.tmp 3) 0, guard := some (some 9, true) }, { dst := some 12, op := Op.load 22 (Operand.tmp 11), guard := some (some 9, true) },
          { dst := some 13, op := Op.call { callee := Callee.builtin Builtin.len, args := { toList := [Operand.tmp 12] }, argTypes := { toList := [22] } }, guard := some (some 9, true) },
          { dst := some 14, op := Op.fieldAddr 26 (Operand.tmp 3) 1, guard := some (some 9, true) }, { dst := some 15, op := Op.load 22 (Operand.tmp 14), guard := some (some 9, true) },
          { dst := some 16, op := Op.call { callee := Callee.builtin Builtin.len, args := { toList := [Operand.tmp 15] }, argTypes := { toList := [22] } }, guard := some (some 9, true) },
          { dst := some 17,
            op :=
              Op.call
                { callee := Callee.builtin Builtin.min, args := { toList := [Operand.tmp 13, Operand.tmp 16, Operand.const (Value.int IntKind.i64 (Int.ofNat 16))] },
                  argTypes := { toList := [3, 3, 3] } },
            guard := some (some 9, true) },
          { dst := some 18, op := Op.binOp BinOp.lss 3 (Operand.tmp 10) (Operand.tmp 17) 3, guard := some (some 9, true) },
          { dst := some 19, op := Op.pick (Operand.tmp 9) (Operand.tmp 18) (Operand.const (Value.bool false)), guard := none }, { dst := some 20, op := Op.move (Operand.tmp 19), guard := none },
          { dst := some 21, op := Op.move (Operand.tmp 2), guard := some (some 20, true) },
          { dst := some 22, op := Op.binOp BinOp.geq 3 (Operand.tmp 21) (Operand.const (Value.int IntKind.i64 (Int.ofNat 0))) 3, guard := some (some 20, true) },
          { dst := some 23, op := Op.pick (Operand.tmp 20) (Operand.tmp 22) (Operand.const (Value.bool false)), guard := none }, { dst := some 24, op := Op.move (Operand.tmp 23), guard := none },
          { dst := some 25, op := Op.move (Operand.tmp 2), guard := some (some 24, true) },
          { dst := some 26, op := Op.binOp BinOp.lss 3 (Operand.tmp 25) (Operand.const (Value.int IntKind.i64 (Int.ofNat 2))) 3, guard := some (some 24, true) },
          { dst := some 27, op := Op.pick (Operand.tmp 24) (Operand.tmp 26) (Operand.const (Value.bool false)), guard := none }, { dst := some 28, op := Op.move (Operand.tmp 27), guard := none },
          { dst := some 29, op := Op.fieldAddr 26 (Operand.tmp 3) 1, guard := some (some 28, true) }, { dst := some 30, op := Op.load 22 (Operand.tmp 29), guard := some (some 28, true) },
          { dst := some 31, op := Op.move (Operand.tmp 1), guard := some (some 28, true) }, { dst := some 32, op := Op.indexAddr 22 (Operand.tmp 30) (Operand.tmp 31), guard := some (some 28, true) },
          { dst := some 33, op := Op.load 3 (Operand.tmp 32), guard := some (some 28, true) }, { dst := some 34, op := Op.move (Operand.tmp 2), guard := some (some 28, true) },
          { dst := some 35, op := Op.binOp BinOp.shr 3 (Operand.tmp 33) (Operand.tmp 34) 3, guard := some (some 28, true) },
          { dst := some 36, op := Op.binOp BinOp.and 3 (Operand.tmp 35) (Operand.const (Value.int IntKind.i64 (Int.ofNat 1))) 3, guard := some (some 28, true) },
          { dst := some 37, op := Op.binOp BinOp.eql 3 (Operand.tmp 36) (Operand.const (Value.int IntKind.i64 (Int.ofNat 1))) 3, guard := some (some 28, true) },
          { dst := some 38, op := Op.pick (Operand.tmp 28) (Operand.tmp 37) (Operand.const (Value.bool false)), guard := none },
          { dst := some 6, op := Op.assign (Operand.tmp 38), guard := none }]).seq
    IC.ret)
theorem ic27_eq : Try.f27.body.map comp = some ic27 := by kernel_rfl
theorem ic27_ok : Try.f27.body.map (okC Try.f27.ntmps) = some true := by kernel_rfl
theorem ic27_nm : (Try.f27.name != "runtime.NumGoroutine") = true := by kernel_rfl
@[simp] theorem ic27_n : Try.f27.ntmps = 39 := by kernel_rfl
@[simp] theorem ic27_r : Try.f27.results.toList = [ResultVar.tmp 6] := by kernel_rfl

def ic28 : IC :=
  (IC.ops [{ dst := some 3, op := Op.box 26 (Operand.tmp 0), guard := none }, { dst := some 6, op := Op.assign (Operand.const (Value.bool false)), guard := none }]).seq
  (((IC.ops
            [{ dst := some 7, op := Op.move (Operand.tmp 1), guard := none },
              { dst := some 8, op := Op.binOp BinOp.lss 3 (Operand.tmp 7) (Operand.const (Value.int IntKind.i64 (Int.ofNat 0))) 3, guard := none },
              { dst := some 9, op := Op.move (Operand.tmp 8), guard := none }, { dst := some 10, op := Op.move (Operand.tmp 1), guard := some (some 9, false) },
              { dst := some 11, op := Op.fieldAddr 26 (Operand.tmp 3) 0, guard := some (some 9, false) }, { dst := some 12, op := Op.load 22 (Operand.tmp 11), guard := some (some 9, false) },
              { dst := some 13, op := Op.call { callee := Callee.builtin Builtin.len, args := { toList := [Operand.tmp 12] }, argTypes := { toList := [22] } }, guard := some (some 9, false) },
              { dst := some 14, op := Op.binOp BinOp.geq 3 (Operand.tmp 10) (Operand.tmp 13) 3, guard := some (some 9, false) },
              { dst := some 15, op := Op.pick (Operand.tmp 9) (Operand.const (Value.bool true)) (Operand.tmp 14), guard := none }, { dst := some 16, op := Op.move (Operand.tmp 15), guard := none },
              { dst := some 17, op := Op.move (Operand.tmp 1), guard := some (some 16, false) }, { dst := some 18, op := Op.fieldAddr 26 (Operand.tmp 3) 1, guard := some (some 16, false) },
              { dst := some 19, op := Op.load 22 (Operand.tmp 18), guard := some (some 16, false) },
              { dst := some 20, op := Op.call { callee := Callee.builtin Builtin.len, args := { toList := [Operand.tmp 19] }, argTypes := { toList := [22] } }, guard := some (some 16, false) },
              { dst := some 21, op := Op.binOp BinOp.geq 3 (Operand.tmp 17) (Operand.tmp 20) 3, guard := some (some 16, false) },
              { dst := some 22, op := Op.pick (Operand.tmp 16) (Operand.const (Value.bool true)) (Operand.tmp 21), guard := none }, { dst := some 23, op := Op.move (Operand.tmp 22), guard := none },
              { dst := some 24, op := Op.move (Operand.tmp 2), guard := some (some 23, false) },
              { dst := some 25, op := Op.binOp BinOp.lss 3 (Operand.tmp 24) (Operand.const (Value.int IntKind.i64 (Int.ofNat 0))) 3, guard := some (some 23, false) },
              { dst := some 26, op := Op.pick (Operand.tmp 23) (Operand.const (Value.bool true)) (Operand.tmp 25), guard := none }, { dst := some 27, op := Op.move (Operand.tmp 26), guard := none },
              { dst := some 28, op := Op.move (Operand.tmp 2), guard := some (some 27, false) },
              { dst := some 29, op := Op.binOp BinOp.gtr 3 (Operand.tmp 28) (Operand.const (Value.int IntKind.i64 (Int.ofNat 1))) 3, guard := some (some 27, false) },
              { dst := some 30, op := Op.pick (Operand.tmp 27) (Operand.const (Value.bool true)) (Operand.tmp 29), guard := none }]).seq
        (IC.cond (Operand.tmp 30) ((IC.ops [{ dst := some 6, op := Op.assign (Operand.const (Value.bool false)), guard := none }]).seq IC.ret) IC.skip)).seq
    ((IC.ops
          [{ dst := some 31, op := Op.fieldAddr 26 (Operand.tmp 3) 1, guard := none }, { dst := some 32, op := Op.load 22 (Operand.tmp 31), guard := none },
            { dst := some 33, op := Op.move (Operand.tmp 1), guard := none }, { dst := some 34, op := Op.indexAddr 22 (Operand.tmp 32) (Operand.tmp 33), guard := none },
            { dst := some 35, op := Op.load 3 (Operand.tmp 34), guard := none }, { dst := some 36, op := Op.move (Operand.tmp 2), guard := none },
            { dst := some 37, op := Op.binOp BinOp.add 3 (Operand.tmp 36) (Operand.const (Value.int IntKind.i64 (Int.ofNat 1))) 3, guard := none },
            { dst := some 38, op := Op.binOp BinOp.quo 3 (Operand.tmp 35) (Operand.tmp 37) 3, guard := none },
            { dst := some 39, op := Op.binOp BinOp.rem 3 (Operand.tmp 38) (Operand.const (Value.int IntKind.i64 (Int.ofNat 2))) 3, guard := none },
            { dst := some 40, op := Op.binOp BinOp.eql 3 (Operand.tmp 39) (Operand.const (Value.int IntKind.i64 (Int.ofNat 1))) 3, guard := none },
            { dst := some 6, op := Op.assign (Operand.tmp 40), guard := none }]).seq
      IC.ret))
theorem ic28_eq : Try.f28.body.map comp = some ic28 := by kernel_rfl
theorem ic28_ok : Try.f28.body.map (okC Try.f28.ntmps) = some true := by kernel_rfl
theorem ic28_nm : (Try.f28.name != "runtime.NumGoroutine") = true := by kernel_rfl
@[simp] theorem ic28_n : Try.f28.ntmps = 41 := by kernel_rfl
@[simp] theorem ic28_r : Try.f28.results.toList = [ResultVar.tmp 6] := by kernel_rfl

def ic29 : IC :=
  (IC.ops [{ dst := some 5, op := Op.box 32 (Operand.tmp 0), guard := none }, { dst := some 10, op := Op.alloc 32, guard := none }]).seq
  (((IC.ops [{ dst := some 12, op := Op.move (Operand.tmp 1), guard := none }]).seq
        (IC.cond (Operand.tmp 12)
          (IC.ops [{ dst := some 13, op := Op.fieldAddr 32 (Operand.tmp 5) 0, guard := none }, { dst := none, op := Op.store 4 (Operand.tmp 13) (Operand.const (Value.bool true)), guard := none }])
          IC.skip)).seq
    (((IC.ops
              [{ dst := some 14, op := Op.move (Operand.tmp 4), guard := none },
                { dst := some 15, op := Op.call { callee := Callee.builtin Builtin.len, args := { toList := [Operand.tmp 14] }, argTypes := { toList := [37] } }, guard := none },
                { dst := some 16, op := Op.move (Operand.const (Value.int IntKind.i64 (Int.ofNat 0))), guard := none }]).seq
          (IC.block 0
            ((IC.ops [{ dst := some 17, op := Op.binOp BinOp.lss 3 (Operand.tmp 16) (Operand.tmp 15) 3, guard := none }]).seq
                ((IC.cond (Operand.tmp 17) IC.skip (IC.exit 0)).seq
                  ((IC.block 1
                        ((IC.ops [{ dst := some 18, op := Op.move (Operand.tmp 16), guard := none }, { dst := some 11, op := Op.assign (Operand.tmp 18), guard := none }]).seq
                          (((IC.ops
                                    [{ dst := some 19, op := Op.move (Operand.tmp 4), guard := none }, { dst := some 20, op := Op.move (Operand.tmp 11), guard := none },
                                      { dst := some 21, op := Op.indexAddr 37 (Operand.tmp 19) (Operand.tmp 20), guard := none },
                                      { dst := some 22, op := Op.fieldAddr 54 (Operand.tmp 21) 0, guard := none }, { dst := some 23, op := Op.load 3 (Operand.tmp 22), guard := none },
                                      { dst := some 24, op := Op.move (Operand.tmp 2), guard := none },
                                      { dst := some 25, op := Op.binOp BinOp.neq 3 (Operand.tmp 23) (Operand.tmp 24) 3, guard := none },
                                      { dst := some 26, op := Op.move (Operand.tmp 25), guard := none }, { dst := some 27, op := Op.move (Operand.tmp 4), guard := some (some 26, false) },
                                      { dst := some 28, op := Op.move (Operand.tmp 11), guard := some (some 26, false) },
                                      { dst := some 29, op := Op.indexAddr 37 (Operand.tmp 27) (Operand.tmp 28), guard := some (some 26, false) },
                                      { dst := some 30, op := Op.fieldAddr 54 (Operand.tmp 29) 1, guard := some (some 26, false) },
                                      { dst := some 31, op := Op.load 3 (Operand.tmp 30), guard := some (some 26, false) },
                                      { dst := some 32, op := Op.move (Operand.tmp 3), guard := some (some 26, false) },
                                      { dst := some 33, op := Op.binOp BinOp.neq 3 (Operand.tmp 31) (Operand.tmp 32) 3, guard := some (some 26, false) },
                                      { dst := some 34, op := Op.pick (Operand.tmp 26) (Operand.const (Value.bool true)) (Operand.tmp 33), guard := none }]).seq
                                (IC.cond (Operand.tmp 34) (IC.exit 1) IC.skip)).seq
                            (((IC.ops
                                      [{ dst := some 35, op := Op.move (Operand.tmp 4), guard := none }, { dst := some 36, op := Op.move (Operand.tmp 11), guard := none },
                                        { dst := some 37, op := Op.indexAddr 37 (Operand.tmp 35) (Operand.tmp 36), guard := none },
                                        { dst := some 38, op := Op.fieldAddr 54 (Operand.tmp 37) 2, guard := none }, { dst := some 39, op := Op.load 3 (Operand.tmp 38), guard := none },
                                        { dst := some 40, op := Op.binOp BinOp.eql 3 (Operand.tmp 39) (Operand.const (Value.int IntKind.i64 (Int.ofNat 1))) 3, guard := none },
                                        { dst := some 41, op := Op.move (Operand.tmp 40), guard := none }, { dst := some 42, op := Op.fieldAddr 32 (Operand.tmp 5) 0, guard := some (some 41, true) },
                                        { dst := some 43, op := Op.load 4 (Operand.tmp 42), guard := some (some 41, true) },
                                        { dst := some 44, op := Op.pick (Operand.tmp 41) (Operand.tmp 43) (Operand.const (Value.bool false)), guard := none }]).seq
                                  (IC.cond (Operand.tmp 44)
                                    (IC.ops
                                      [{ dst := some 45, op := Op.fieldAddr 32 (Operand.tmp 5) 1, guard := none },
                                        { dst := none, op := Op.store 4 (Operand.tmp 45) (Operand.const (Value.bool true)), guard := none }])
                                    IC.skip)).seq
                              ((IC.ops
                                    [{ dst := some 46, op := Op.move (Operand.tmp 4), guard := none }, { dst := some 47, op := Op.move (Operand.tmp 11), guard := none },
                                      { dst := some 48, op := Op.indexAddr 37 (Operand.tmp 46) (Operand.tmp 47), guard := none },
                                      { dst := some 49, op := Op.fieldAddr 54 (Operand.tmp 48) 2, guard := none }, { dst := some 50, op := Op.load 3 (Operand.tmp 49), guard := none },
                                      { dst := some 51, op := Op.binOp BinOp.eql 3 (Operand.tmp 50) (Operand.const (Value.int IntKind.i64 (Int.ofNat 2))) 3, guard := none }]).seq
                                (IC.cond (Operand.tmp 51)
                                  (IC.ops
                                    [{ dst := some 52, op := Op.fieldAddr 32 (Operand.tmp 5) 1, guard := none },
                                      { dst := none, op := Op.store 4 (Operand.tmp 52) (Operand.const (Value.bool false)), guard := none }])
                                  IC.skip)))))).seq
                    (IC.ops
                      [{ dst := some 53, op := Op.binOp BinOp.add 3 (Operand.tmp 16) (Operand.const (Value.int IntKind.i64 (Int.ofNat 1))) 3, guard := none },
                        { dst := some 16, op := Op.move (Operand.tmp 53), guard := none }])))).loop)).seq
      (((IC.ops
                [{ dst := some 54, op := Op.fieldAddr 32 (Operand.tmp 5) 1, guard := none }, { dst := some 55, op := Op.load 4 (Operand.tmp 54), guard := none },
                  { dst := some 56, op := Op.unOp UnOp.not 4 (Operand.tmp 55), guard := none }, { dst := some 57, op := Op.move (Operand.tmp 56), guard := none },
                  { dst := some 58, op := Op.move (Operand.tmp 1), guard := some (some 57, true) }, { dst := some 59, op := Op.unOp UnOp.not 4 (Operand.tmp 58), guard := some (some 57, true) },
                  { dst := some 60, op := Op.pick (Operand.tmp 57) (Operand.tmp 59) (Operand.const (Value.bool false)), guard := none }]).seq
            (IC.cond (Operand.tmp 60)
              (IC.ops
                [{ dst := some 61, op := Op.fieldAddr 32 (Operand.tmp 5) 0, guard := none }, { dst := none, op := Op.store 4 (Operand.tmp 61) (Operand.const (Value.bool false)), guard := none }])
              IC.skip)).seq
        ((IC.ops [{ dst := some 62, op := Op.load 32 (Operand.tmp 5), guard := none }, { dst := none, op := Op.store 32 (Operand.tmp 10) (Operand.tmp 62), guard := none }]).seq IC.ret))))
theorem ic29_eq : Try.f29.body.map comp = some ic29 := by kernel_rfl
theorem ic29_ok : Try.f29.body.map (okC Try.f29.ntmps) = some true := by kernel_rfl
theorem ic29_nm : (Try.f29.name != "runtime.NumGoroutine") = true := by kernel_rfl
@[simp] theorem ic29_n : Try.f29.ntmps = 63 := by kernel_rfl
@[simp] theorem ic29_r : Try.f29.results.toList = [ResultVar.cell 10 32] := by kernel_rfl

def ic30 : IC :=
  (IC.ops
      [{ dst := some 5, op := Op.box 26 (Operand.tmp 0), guard := none }, { dst := some 7, op := Op.box 36 (Operand.tmp 2), guard := none },
        { dst := some 10, op := Op.assign (Operand.const (Value.bool false)), guard := none }]).seq
  ((IC.ops
        [{ dst := some 14, op := Op.load 26 (Operand.tmp 5), guard := none }, { dst := some 15, op := Op.move (Operand.tmp 1), guard := none },
          { dst := some 16, op := Op.call { callee := Callee.value (Operand.func 19), args := { toList := [Operand.tmp 14, Operand.tmp 15] }, argTypes := { toList := [26, 3] } }, guard := none },
          { dst := some 13, op := Op.move (Operand.tmp 16), guard := none }, { dst := some 17, op := Op.extract (Operand.tmp 13) 0, guard := none },
          { dst := some 18, op := Op.extract (Operand.tmp 13) 1, guard := none }, { dst := some 11, op := Op.assign (Operand.tmp 17), guard := none },
          { dst := some 12, op := Op.assign (Operand.tmp 18), guard := none }]).seq
    ((IC.ops
          [{ dst := some 19, op := Op.move (Operand.tmp 12), guard := none }, { dst := some 20, op := Op.move (Operand.tmp 19), guard := none },
            { dst := some 21, op := Op.move (Operand.tmp 11), guard := some (some 20, true) }, { dst := some 22, op := Op.move (Operand.tmp 3), guard := some (some 20, true) },
            { dst := some 23, op := Op.binOp BinOp.eql 3 (Operand.tmp 21) (Operand.tmp 22) 3, guard := some (some 20, true) },
            { dst := some 24, op := Op.pick (Operand.tmp 20) (Operand.tmp 23) (Operand.const (Value.bool false)), guard := none }, { dst := some 25, op := Op.move (Operand.tmp 24), guard := none },
            { dst := some 26, op := Op.move (Operand.tmp 4), guard := some (some 25, true) }, { dst := some 27, op := Op.indexAddr 36 (Operand.tmp 7) (Operand.tmp 26), guard := some (some 25, true) },
            { dst := some 28, op := Op.load 4 (Operand.tmp 27), guard := some (some 25, true) },
            { dst := some 29, op := Op.pick (Operand.tmp 25) (Operand.tmp 28) (Operand.const (Value.bool false)), guard := none },
            { dst := some 10, op := Op.assign (Operand.tmp 29), guard := none }]).seq
      IC.ret))
theorem ic30_eq : Try.f30.body.map comp = some ic30 := by kernel_rfl
theorem ic30_ok : Try.f30.body.map (okC Try.f30.ntmps) = some true := by kernel_rfl
theorem ic30_nm : (Try.f30.name != "runtime.NumGoroutine") = true := by kernel_rfl
@[simp] theorem ic30_n : Try.f30.ntmps = 30 := by kernel_rfl
@[simp] theorem ic30_r : Try.f30.results.toList = [ResultVar.tmp 10] := by kernel_rfl

def ic31 : IC :=
  (IC.ops [{ dst := some 2, op := Op.box 26 (Operand.tmp 0), guard := none }, { dst := some 4, op := Op.assign (Operand.const (Value.int IntKind.i64 (Int.ofNat 0))), guard := none }]).seq
  ((IC.ops [{ dst := some 5, op := Op.assign (Operand.const (Value.int IntKind.i64 (Int.ofNat 0))), guard := none }]).seq
    (((IC.ops
              [{ dst := some 7, op := Op.fieldAddr 26 (Operand.tmp 2) 0, guard := none }, { dst := some 8, op := Op.load 22 (Operand.tmp 7), guard := none },
                { dst := some 9, op := Op.call { callee := Callee.builtin Builtin.len, args := { toList := [Operand.tmp 8] }, argTypes := { toList := [22] } }, guard := none },
                { dst := some 10, op := Op.move (Operand.const (Value.int IntKind.i64 (Int.ofNat 0))), guard := none }]).seq
          (IC.block 0
            ((IC.ops [{ dst := some 11, op := Op.binOp BinOp.lss 3 (Operand.tmp 10) (Operand.tmp 9) 3, guard := none }]).seq
                ((IC.cond (Operand.tmp 11) IC.skip (IC.exit 0)).seq
                  ((IC.block 1
                        ((IC.ops [{ dst := some 12, op := Op.move (Operand.tmp 10), guard := none }, { dst := some 6, op := Op.assign (Operand.tmp 12), guard := none }]).seq
                          ((IC.opsD
                                [{ dst := some 13, op := Op.move (Operand.tmp 1), guard := none }, { dst := some 14, op := Op.fieldAddr 26 (Operand.tmp 2) 0, guard := none },
                                  { dst := some 15, op := Op.load 22 (Operand.tmp 14), guard := none, bef := [1] }, { dst := some 16, op := Op.move (Operand.tmp 6), guard := none },
                                  { dst := some 17, op := Op.indexAddr 22 (Operand.tmp 15) (Operand.tmp 16), guard := none, bef := [2, 1, 3] },
                                  { dst := some 18, op := Op.load 3 (Operand.tmp 17), guard := none, bef := [4, 2, 1, 3] },
                                  { dst := some 19,
                                    op := Op.call { callee := Callee.value (Operand.func 32), args := { toList := [Operand.tmp 13, Operand.tmp 18] }, argTypes := { toList := [3, 3] } }, guard := none,
                                    bef := [0, 5, 4, 2, 1, 3] },
                                  { dst := some 20, op := Op.move (Operand.tmp 1), guard := none }, { dst := some 21, op := Op.fieldAddr 26 (Operand.tmp 2) 0, guard := none },
                                  { dst := some 22, op := Op.load 22 (Operand.tmp 21), guard := none, bef := [8] }, { dst := some 23, op := Op.move (Operand.tmp 5), guard := none },
                                  { dst := some 24, op := Op.indexAddr 22 (Operand.tmp 22) (Operand.tmp 23), guard := none, bef := [9, 8, 10] },
                                  { dst := some 25, op := Op.load 3 (Operand.tmp 24), guard := none, bef := [11, 9, 8, 10] },
                                  { dst := some 26,
                                    op := Op.call { callee := Callee.value (Operand.func 32), args := { toList := [Operand.tmp 20, Operand.tmp 25] }, argTypes := { toList := [3, 3] } }, guard := none,
                                    bef := [7, 12, 11, 9, 8, 10, 6, 0, 5, 4, 2, 1, 3] },
                                  { dst := some 27, op := Op.binOp BinOp.lss 3 (Operand.tmp 19) (Operand.tmp 26) 3, guard := none, bef := [6, 0, 5, 4, 2, 1, 3, 13, 7, 12, 11, 9, 8, 10] }]).seq
                            (IC.cond (Operand.tmp 27) (IC.ops [{ dst := some 28, op := Op.move (Operand.tmp 6), guard := none }, { dst := some 5, op := Op.assign (Operand.tmp 28), guard := none }])
                              IC.skip)))).seq
                    (IC.ops
                      [{ dst := some 29, op := Op.binOp BinOp.add 3 (Operand.tmp 10) (Operand.const (Value.int IntKind.i64 (Int.ofNat 1))) 3, guard := none },
                        { dst := some 10, op := Op.move (Operand.tmp 29), guard := none }])))).loop)).seq
      ((IC.ops [{ dst := some 30, op := Op.move (Operand.tmp 5), guard := none }, { dst := some 4, op := Op.assign (Operand.tmp 30), guard := none }]).seq IC.ret)))
theorem ic31_eq : Try.f31.body.map comp = some ic31 := by kernel_rfl
theorem ic31_ok : Try.f31.body.map (okC Try.f31.ntmps) = some true := by kernel_rfl
theorem ic31_nm : (Try.f31.name != "runtime.NumGoroutine") = true := by kernel_rfl
@[simp] theorem ic31_n : Try.f31.ntmps = 31 := by kernel_rfl
@[simp] theorem ic31_r : Try.f31.results.toList = [ResultVar.tmp 4] := by kernel_rfl

def ic32 : IC :=
  (IC.ops [{ dst := some 4, op := Op.assign (Operand.const (Value.int IntKind.i64 (Int.ofNat 0))), guard := none }]).seq
  ((IC.ops
        [{ dst := some 5, op := Op.move (Operand.tmp 0), guard := none }, { dst := some 6, op := Op.move (Operand.tmp 1), guard := none },
          { dst := some 7, op := Op.binOp BinOp.sub 3 (Operand.tmp 5) (Operand.tmp 6) 3, guard := none }, { dst := some 8, op := Op.move (Operand.tmp 1), guard := none },
          { dst := some 9, op := Op.move (Operand.tmp 0), guard := none }, { dst := some 10, op := Op.binOp BinOp.sub 3 (Operand.tmp 8) (Operand.tmp 9) 3, guard := none },
          { dst := some 11, op := Op.call { callee := Callee.builtin Builtin.max, args := { toList := [Operand.tmp 7, Operand.tmp 10] }, argTypes := { toList := [3, 3] } }, guard := none },
          { dst := some 4, op := Op.assign (Operand.tmp 11), guard := none }]).seq
    IC.ret)
theorem ic32_eq : Try.f32.body.map comp = some ic32 := by kernel_rfl
theorem ic32_ok : Try.f32.body.map (okC Try.f32.ntmps) = some true := by kernel_rfl
theorem ic32_nm : (Try.f32.name != "runtime.NumGoroutine") = true := by kernel_rfl
@[simp] theorem ic32_n : Try.f32.ntmps = 12 := by kernel_rfl
@[simp] theorem ic32_r : Try.f32.results.toList = [ResultVar.tmp 4] := by kernel_rfl

def ic33 : IC :=
  (IC.ops [{ dst := some 4, op := Op.assign (Operand.const (Value.int IntKind.i64 (Int.ofNat 0))), guard := none }]).seq
  ((IC.ops [{ dst := some 5, op := Op.assign (Operand.const (Value.int IntKind.i64 (Int.ofNat 0))), guard := none }]).seq
    (((IC.ops [{ dst := some 6, op := Op.assign (Operand.const (Value.int IntKind.i64 (Int.ofNat 0))), guard := none }]).seq
          (IC.block 0
            (((IC.ops
                        [{ dst := some 7, op := Op.move (Operand.tmp 0), guard := none },
                          { dst := some 8, op := Op.binOp BinOp.gtr 3 (Operand.tmp 7) (Operand.const (Value.int IntKind.i64 (Int.ofNat 0))) 3, guard := none },
                          { dst := some 9, op := Op.move (Operand.tmp 8), guard := none }, { dst := some 10, op := Op.move (Operand.tmp 6), guard := some (some 9, true) },
                          { dst := some 11, op := Op.binOp BinOp.lss 3 (Operand.tmp 10) (Operand.const (Value.int IntKind.i64 (Int.ofNat 2000))) 3, guard := some (some 9, true) },
                          { dst := some 12, op := Op.pick (Operand.tmp 9) (Operand.tmp 11) (Operand.const (Value.bool false)), guard := none }]).seq
                    (IC.cond (Operand.tmp 12) IC.skip (IC.exit 0))).seq
                ((IC.block 1
                      ((IC.ops
                            [{ dst := some 15, op := Op.move (Operand.tmp 0), guard := none }, { dst := some 16, op := Op.move (Operand.tmp 1), guard := none },
                              { dst := some 17,
                                op :=
                                  Op.call
                                    { callee := Callee.value (Operand.func 42), args := { toList := [Operand.tmp 15, Operand.const (Value.int IntKind.i64 (Int.ofNat 0)), Operand.tmp 16] },
                                      argTypes := { toList := [3, 3, 3] } },
                                guard := none },
                              { dst := some 0, op := Op.assign (Operand.tmp 17), guard := none }]).seq
                        (IC.ops
                          [{ dst := some 18, op := Op.move (Operand.tmp 5), guard := none }, { dst := some 19, op := Op.move (Operand.tmp 0), guard := none },
                            { dst := some 20, op := Op.binOp BinOp.add 3 (Operand.tmp 18) (Operand.tmp 19) 3, guard := none },
                            { dst := some 5, op := Op.assign (Operand.tmp 20), guard := none }]))).seq
                  (IC.ops
                    [{ dst := some 13, op := Op.move (Operand.tmp 6), guard := none },
                      { dst := some 14, op := Op.binOp BinOp.add 3 (Operand.tmp 13) (Operand.const (Value.int IntKind.i64 (Int.ofNat 1))) 3, guard := none },
                      { dst := some 6, op := Op.assign (Operand.tmp 14), guard := none }]))).loop)).seq
      ((IC.ops [{ dst := some 21, op := Op.move (Operand.tmp 5), guard := none }, { dst := some 4, op := Op.assign (Operand.tmp 21), guard := none }]).seq IC.ret)))
theorem ic33_eq : Try.f33.body.map comp = some ic33 := by kernel_rfl
theorem ic33_ok : Try.f33.body.map (okC Try.f33.ntmps) = some true := by kernel_rfl
theorem ic33_nm : (Try.f33.name != "runtime.NumGoroutine") = true := by kernel_rfl
@[simp] theorem ic33_n : Try.f33.ntmps = 22 := by kernel_rfl
@[simp] theorem ic33_r : Try.f33.results.toList = [ResultVar.tmp 4] := by kernel_rfl

def ic34 : IC :=
  (IC.ops [{ dst := some 4, op := Op.assign (Operand.const (Value.int IntKind.i64 (Int.ofNat 0))), guard := none }]).seq
  ((IC.ops [{ dst := some 5, op := Op.assign (Operand.const (Value.int IntKind.i64 (Int.ofNat 0))), guard := none }]).seq
    ((IC.block 0
          (((IC.ops
                      [{ dst := some 6, op := Op.move (Operand.tmp 0), guard := none },
                        { dst := some 7, op := Op.binOp BinOp.gtr 3 (Operand.tmp 6) (Operand.const (Value.int IntKind.i64 (Int.ofNat 0))) 3, guard := none },
                        { dst := some 8, op := Op.move (Operand.tmp 7), guard := none }, { dst := some 9, op := Op.move (Operand.tmp 5), guard := some (some 8, true) },
                        { dst := some 10, op := Op.binOp BinOp.lss 3 (Operand.tmp 9) (Operand.const (Value.int IntKind.i64 (Int.ofNat 2000))) 3, guard := some (some 8, true) },
                        { dst := some 11, op := Op.pick (Operand.tmp 8) (Operand.tmp 10) (Operand.const (Value.bool false)), guard := none }]).seq
                  (IC.cond (Operand.tmp 11) IC.skip (IC.exit 0))).seq
              (IC.block 1
                ((IC.ops
                      [{ dst := some 12, op := Op.move (Operand.tmp 0), guard := none }, { dst := some 13, op := Op.move (Operand.tmp 1), guard := none },
                        { dst := some 14,
                          op :=
                            Op.call
                              { callee := Callee.value (Operand.func 42), args := { toList := [Operand.tmp 12, Operand.const (Value.int IntKind.i64 (Int.ofNat 0)), Operand.tmp 13] },
                                argTypes := { toList := [3, 3, 3] } },
                          guard := none },
                        { dst := some 0, op := Op.assign (Operand.tmp 14), guard := none }]).seq
                  (IC.ops
                    [{ dst := some 15, op := Op.move (Operand.tmp 5), guard := none },
                      { dst := some 16, op := Op.binOp BinOp.add 3 (Operand.tmp 15) (Operand.const (Value.int IntKind.i64 (Int.ofNat 1))) 3, guard := none },
                      { dst := some 5, op := Op.assign (Operand.tmp 16), guard := none }])))).loop).seq
      ((IC.ops [{ dst := some 17, op := Op.move (Operand.tmp 5), guard := none }, { dst := some 4, op := Op.assign (Operand.tmp 17), guard := none }]).seq IC.ret)))
theorem ic34_eq : Try.f34.body.map comp = some ic34 := by kernel_rfl
theorem ic34_ok : Try.f34.body.map (okC Try.f34.ntmps) = some true := by kernel_rfl
theorem ic34_nm : (Try.f34.name != "runtime.NumGoroutine") = true := by kernel_rfl
@[simp] theorem ic34_n : Try.f34.ntmps = 18 := by kernel_rfl
@[simp] theorem ic34_r : Try.f34.results.toList = [ResultVar.tmp 4] := by kernel_rfl

def ic35 : IC :=
  (IC.ops [{ dst := some 1, op := Op.box 26 (Operand.tmp 0), guard := none }, { dst := some 2, op := Op.assign (Operand.const (Value.bool false)), guard := none }]).seq
  (((IC.ops
            [{ dst := some 4, op := Op.fieldAddr 26 (Operand.tmp 1) 0, guard := none }, { dst := some 5, op := Op.load 22 (Operand.tmp 4), guard := none },
              { dst := some 6, op := Op.call { callee := Callee.builtin Builtin.len, args := { toList := [Operand.tmp 5] }, argTypes := { toList := [22] } }, guard := none },
              { dst := some 7, op := Op.binOp BinOp.lss 3 (Operand.tmp 6) (Operand.const (Value.int IntKind.i64 (Int.ofNat 2))) 3, guard := none },
              { dst := some 8, op := Op.move (Operand.tmp 7), guard := none }, { dst := some 9, op := Op.fieldAddr 26 (Operand.tmp 1) 0, guard := some (some 8, false) },
              { dst := some 10, op := Op.load 22 (Operand.tmp 9), guard := some (some 8, false) },
              { dst := some 11, op := Op.call { callee := Callee.builtin Builtin.len, args := { toList := [Operand.tmp 10] }, argTypes := { toList := [22] } }, guard := some (some 8, false) },
              { dst := some 12, op := Op.binOp BinOp.gtr 3 (Operand.tmp 11) (Operand.const (Value.int IntKind.i64 (Int.ofNat 16))) 3, guard := some (some 8, false) },
              { dst := some 13, op := Op.pick (Operand.tmp 8) (Operand.const (Value.bool true)) (Operand.tmp 12), guard := none }, { dst := some 14, op := Op.move (Operand.tmp 13), guard := none },
              { dst := some 15, op := Op.fieldAddr 26 (Operand.tmp 1) 0, guard := some (some 14, false) }, { dst := some 16, op := Op.load 22 (Operand.tmp 15), guard := some (some 14, false) },
              { dst := some 17, op := Op.indexAddr 22 (Operand.tmp 16) (Operand.const (Value.int IntKind.i64 (Int.ofNat 0))), guard := some (some 14, false) },
              { dst := some 18, op := Op.load 3 (Operand.tmp 17), guard := some (some 14, false) },
              { dst := some 19, op := Op.binOp BinOp.neq 3 (Operand.tmp 18) (Operand.const (Value.int IntKind.i64 (Int.ofNat 0))) 3, guard := some (some 14, false) },
              { dst := some 20, op := Op.pick (Operand.tmp 14) (Operand.const (Value.bool true)) (Operand.tmp 19), guard := none }]).seq
        (IC.cond (Operand.tmp 20) ((IC.ops [{ dst := some 2, op := Op.assign (Operand.const (Value.bool false)), guard := none }]).seq IC.ret) IC.skip)).seq
    (((IC.ops [{ dst := some 3, op := Op.assign (Operand.const (Value.int IntKind.i64 (Int.ofNat 1))), guard := none }]).seq
          (IC.block 0
            (((IC.ops
                        [{ dst := some 21, op := Op.move (Operand.tmp 3), guard := none }, { dst := some 22, op := Op.fieldAddr 26 (Operand.tmp 1) 0, guard := none },
                          { dst := some 23, op := Op.load 22 (Operand.tmp 22), guard := none },
                          { dst := some 24, op := Op.call { callee := Callee.builtin Builtin.len, args := { toList := [Operand.tmp 23] }, argTypes := { toList := [22] } }, guard := none },
                          { dst := some 25, op := Op.binOp BinOp.lss 3 (Operand.tmp 21) (Operand.tmp 24) 3, guard := none }]).seq
                    (IC.cond (Operand.tmp 25) IC.skip (IC.exit 0))).seq
                ((IC.block 1
                      ((IC.opsD
                            [{ dst := some 28, op := Op.fieldAddr 26 (Operand.tmp 1) 0, guard := none }, { dst := some 29, op := Op.load 22 (Operand.tmp 28), guard := none, bef := [0] },
                              { dst := some 30, op := Op.move (Operand.tmp 3), guard := none },
                              { dst := some 31, op := Op.indexAddr 22 (Operand.tmp 29) (Operand.tmp 30), guard := none, bef := [1, 0, 2] },
                              { dst := some 32, op := Op.load 3 (Operand.tmp 31), guard := none, bef := [3, 1, 0, 2] }, { dst := some 33, op := Op.fieldAddr 26 (Operand.tmp 1) 0, guard := none },
                              { dst := some 34, op := Op.load 22 (Operand.tmp 33), guard := none, bef := [5] }, { dst := some 35, op := Op.move (Operand.tmp 3), guard := none },
                              { dst := some 36, op := Op.binOp BinOp.sub 3 (Operand.tmp 35) (Operand.const (Value.int IntKind.i64 (Int.ofNat 1))) 3, guard := none, bef := [7] },
                              { dst := some 37, op := Op.indexAddr 22 (Operand.tmp 34) (Operand.tmp 36), guard := none, bef := [6, 5, 8, 7] },
                              { dst := some 38, op := Op.load 3 (Operand.tmp 37), guard := none, bef := [9, 6, 5, 8, 7] },
                              { dst := some 39, op := Op.binOp BinOp.leq 3 (Operand.tmp 32) (Operand.tmp 38) 3, guard := none, bef := [4, 3, 1, 0, 2, 10, 9, 6, 5, 8, 7] },
                              { dst := some 40, op := Op.move (Operand.tmp 39), guard := none, bef := [11, 4, 3, 1, 0, 2, 10, 9, 6, 5, 8, 7] },
                              { dst := some 41, op := Op.fieldAddr 26 (Operand.tmp 1) 0, guard := some (some 40, false), bef := [12, 11, 4, 3, 1, 0, 2, 10, 9, 6, 5, 8, 7] },
                              { dst := some 42, op := Op.load 22 (Operand.tmp 41), guard := some (some 40, false), bef := [13, 12, 11, 4, 3, 1, 0, 2, 10, 9, 6, 5, 8, 7] },
                              { dst := some 43, op := Op.move (Operand.tmp 3), guard := some (some 40, false), bef := [12, 11, 4, 3, 1, 0, 2, 10, 9, 6, 5, 8, 7] },
                              { dst := some 44, op := Op.indexAddr 22 (Operand.tmp 42) (Operand.tmp 43), guard := some (some 40, false),
                                bef := [14, 13, 12, 11, 4, 3, 1, 0, 2, 10, 9, 6, 5, 8, 7, 15] },
                              { dst := some 45, op := Op.load 3 (Operand.tmp 44), guard := some (some 40, false), bef := [16, 14, 13, 12, 11, 4, 3, 1, 0, 2, 10, 9, 6, 5, 8, 7, 15] },
                              { dst := some 46, op := Op.binOp BinOp.gtr 3 (Operand.tmp 45) (Operand.const (Value.int IntKind.i64 (Int.ofNat 1000000))) 3, guard := some (some 40, false),
                                bef := [17, 16, 14, 13, 12, 11, 4, 3, 1, 0, 2, 10, 9, 6, 5, 8, 7, 15] },
                              { dst := some 47, op := Op.pick (Operand.tmp 40) (Operand.const (Value.bool true)) (Operand.tmp 46), guard := none,
                                bef := [12, 11, 4, 3, 1, 0, 2, 10, 9, 6, 5, 8, 7, 18, 17, 16, 14, 13, 15] }]).seq
                        (IC.cond (Operand.tmp 47) ((IC.ops [{ dst := some 2, op := Op.assign (Operand.const (Value.bool false)), guard := none }]).seq IC.ret) IC.skip))).seq
                  (IC.ops
                    [{ dst := some 26, op := Op.move (Operand.tmp 3), guard := none },
                      { dst := some 27, op := Op.binOp BinOp.add 3 (Operand.tmp 26) (Operand.const (Value.int IntKind.i64 (Int.ofNat 1))) 3, guard := none },
                      { dst := some 3, op := Op.assign (Operand.tmp 27), guard := none }]))).loop)).seq
      ((IC.ops [{ dst := some 2, op := Op.assign (Operand.const (Value.bool true)), guard := none }]).seq IC.ret)))
theorem ic35_eq : Try.f35.body.map comp = some ic35 := by kernel_rfl
theorem ic35_ok : Try.f35.body.map (okC Try.f35.ntmps) = some true := by kernel_rfl
theorem ic35_nm : (Try.f35.name != "runtime.NumGoroutine") = true := by kernel_rfl
@[simp] theorem ic35_n : Try.f35.ntmps = 48 := by kernel_rfl
@[simp] theorem ic35_r : Try.f35.results.toList = [ResultVar.tmp 2] := by kernel_rfl

def ic36 : IC :=
  (IC.ops [{ dst := some 1, op := Op.box 26 (Operand.tmp 0), guard := none }, { dst := some 2, op := Op.assign (Operand.const (Value.bool false)), guard := none }]).seq
  (((IC.ops
            [{ dst := some 4, op := Op.fieldAddr 26 (Operand.tmp 1) 1, guard := none }, { dst := some 5, op := Op.load 22 (Operand.tmp 4), guard := none },
              { dst := some 6, op := Op.call { callee := Callee.builtin Builtin.len, args := { toList := [Operand.tmp 5] }, argTypes := { toList := [22] } }, guard := none },
              { dst := some 7, op := Op.move (Operand.const (Value.int IntKind.i64 (Int.ofNat 0))), guard := none }]).seq
        (IC.block 0
          ((IC.ops [{ dst := some 8, op := Op.binOp BinOp.lss 3 (Operand.tmp 7) (Operand.tmp 6) 3, guard := none }]).seq
              ((IC.cond (Operand.tmp 8) IC.skip (IC.exit 0)).seq
                ((IC.block 1
                      ((IC.ops [{ dst := some 9, op := Op.move (Operand.tmp 7), guard := none }, { dst := some 3, op := Op.assign (Operand.tmp 9), guard := none }]).seq
                        ((IC.ops
                              [{ dst := some 10, op := Op.fieldAddr 26 (Operand.tmp 1) 1, guard := none }, { dst := some 11, op := Op.load 22 (Operand.tmp 10), guard := none },
                                { dst := some 12, op := Op.move (Operand.tmp 3), guard := none }, { dst := some 13, op := Op.indexAddr 22 (Operand.tmp 11) (Operand.tmp 12), guard := none },
                                { dst := some 14, op := Op.load 3 (Operand.tmp 13), guard := none },
                                { dst := some 15,
                                  op :=
                                    Op.call
                                      { callee := Callee.value (Operand.func 37),
                                        args := { toList := [Operand.tmp 14, Operand.const (Value.int IntKind.i64 (Int.ofNat 1)), Operand.const (Value.int IntKind.i64 (Int.ofNat 3))] },
                                        argTypes := { toList := [3, 3, 3] } },
                                  guard := none },
                                { dst := some 16, op := Op.unOp UnOp.not 4 (Operand.tmp 15), guard := none }]).seq
                          (IC.cond (Operand.tmp 16) ((IC.ops [{ dst := some 2, op := Op.assign (Operand.const (Value.bool false)), guard := none }]).seq IC.ret) IC.skip)))).seq
                  (IC.ops
                    [{ dst := some 17, op := Op.binOp BinOp.add 3 (Operand.tmp 7) (Operand.const (Value.int IntKind.i64 (Int.ofNat 1))) 3, guard := none },
                      { dst := some 7, op := Op.move (Operand.tmp 17), guard := none }])))).loop)).seq
    ((IC.ops
          [{ dst := some 18, op := Op.fieldAddr 26 (Operand.tmp 1) 1, guard := none }, { dst := some 19, op := Op.load 22 (Operand.tmp 18), guard := none },
            { dst := some 20, op := Op.call { callee := Callee.builtin Builtin.len, args := { toList := [Operand.tmp 19] }, argTypes := { toList := [22] } }, guard := none },
            { dst := some 21, op := Op.fieldAddr 26 (Operand.tmp 1) 0, guard := none }, { dst := some 22, op := Op.load 22 (Operand.tmp 21), guard := none },
            { dst := some 23, op := Op.call { callee := Callee.builtin Builtin.len, args := { toList := [Operand.tmp 22] }, argTypes := { toList := [22] } }, guard := none },
            { dst := some 24, op := Op.binOp BinOp.eql 3 (Operand.tmp 20) (Operand.tmp 23) 3, guard := none }, { dst := some 2, op := Op.assign (Operand.tmp 24), guard := none }]).seq
      IC.ret))
theorem ic36_eq : Try.f36.body.map comp = some ic36 := by kernel_rfl
theorem ic36_ok : Try.f36.body.map (okC Try.f36.ntmps) = some true := by kernel_rfl
theorem ic36_nm : (Try.f36.name != "runtime.NumGoroutine") = true := by kernel_rfl
@[simp] theorem ic36_n : Try.f36.ntmps = 25 := by kernel_rfl
@[simp] theorem ic36_r : Try.f36.results.toList = [ResultVar.tmp 2] := by kernel_rfl

def ic37 : IC :=
  (IC.ops [{ dst := some 6, op := Op.assign (Operand.const (Value.bool false)), guard := none }]).seq
  ((IC.ops
        [{ dst := some 7, op := Op.move (Operand.tmp 0), guard := none }, { dst := some 8, op := Op.move (Operand.tmp 1), guard := none },
          { dst := some 9, op := Op.binOp BinOp.geq 3 (Operand.tmp 7) (Operand.tmp 8) 3, guard := none }, { dst := some 10, op := Op.move (Operand.tmp 9), guard := none },
          { dst := some 11, op := Op.move (Operand.tmp 0), guard := some (some 10, true) }, { dst := some 12, op := Op.move (Operand.tmp 2), guard := some (some 10, true) },
          { dst := some 13, op := Op.binOp BinOp.leq 3 (Operand.tmp 11) (Operand.tmp 12) 3, guard := some (some 10, true) },
          { dst := some 14, op := Op.pick (Operand.tmp 10) (Operand.tmp 13) (Operand.const (Value.bool false)), guard := none },
          { dst := some 6, op := Op.assign (Operand.tmp 14), guard := none }]).seq
    IC.ret)
theorem ic37_eq : Try.f37.body.map comp = some ic37 := by kernel_rfl
theorem ic37_ok : Try.f37.body.map (okC Try.f37.ntmps) = some true := by kernel_rfl
theorem ic37_nm : (Try.f37.name != "runtime.NumGoroutine") = true := by kernel_rfl
@[simp] theorem ic37_n : Try.f37.ntmps = 15 := by kernel_rfl
@[simp] theorem ic37_r : Try.f37.results.toList = [ResultVar.tmp 6] := by kernel_rfl

def ic38 : IC :=
  (IC.ops [{ dst := some 1, op := Op.box 26 (Operand.tmp 0), guard := none }, { dst := some 2, op := Op.assign (Operand.const (Value.bool false)), guard := none }]).seq
  (((IC.ops [{ dst := some 3, op := Op.assign (Operand.const (Value.int IntKind.i64 (Int.ofNat 1))), guard := none }]).seq
        (IC.block 0
          (((IC.ops
                      [{ dst := some 4, op := Op.move (Operand.tmp 3), guard := none }, { dst := some 5, op := Op.fieldAddr 26 (Operand.tmp 1) 0, guard := none },
                        { dst := some 6, op := Op.load 22 (Operand.tmp 5), guard := none },
                        { dst := some 7, op := Op.call { callee := Callee.builtin Builtin.len, args := { toList := [Operand.tmp 6] }, argTypes := { toList := [22] } }, guard := none },
                        { dst := some 8, op := Op.binOp BinOp.lss 3 (Operand.tmp 4) (Operand.tmp 7) 3, guard := none }]).seq
                  (IC.cond (Operand.tmp 8) IC.skip (IC.exit 0))).seq
              ((IC.block 1
                    ((IC.opsD
                          [{ dst := some 11, op := Op.fieldAddr 26 (Operand.tmp 1) 0, guard := none }, { dst := some 12, op := Op.load 22 (Operand.tmp 11), guard := none, bef := [0] },
                            { dst := some 13, op := Op.move (Operand.tmp 3), guard := none },
                            { dst := some 14, op := Op.indexAddr 22 (Operand.tmp 12) (Operand.tmp 13), guard := none, bef := [1, 0, 2] },
                            { dst := some 15, op := Op.load 3 (Operand.tmp 14), guard := none, bef := [3, 1, 0, 2] }, { dst := some 16, op := Op.fieldAddr 26 (Operand.tmp 1) 0, guard := none },
                            { dst := some 17, op := Op.load 22 (Operand.tmp 16), guard := none, bef := [5] }, { dst := some 18, op := Op.move (Operand.tmp 3), guard := none },
                            { dst := some 19, op := Op.binOp BinOp.sub 3 (Operand.tmp 18) (Operand.const (Value.int IntKind.i64 (Int.ofNat 1))) 3, guard := none, bef := [7] },
                            { dst := some 20, op := Op.indexAddr 22 (Operand.tmp 17) (Operand.tmp 19), guard := none, bef := [6, 5, 8, 7] },
                            { dst := some 21, op := Op.load 3 (Operand.tmp 20), guard := none, bef := [9, 6, 5, 8, 7] },
                            { dst := some 22, op := Op.binOp BinOp.sub 3 (Operand.tmp 15) (Operand.tmp 21) 3, guard := none, bef := [4, 3, 1, 0, 2, 10, 9, 6, 5, 8, 7] },
                            { dst := some 23, op := Op.fieldAddr 26 (Operand.tmp 1) 6, guard := none }, { dst := some 24, op := Op.load 3 (Operand.tmp 23), guard := none, bef := [12] },
                            { dst := some 25, op := Op.binOp BinOp.mul 3 (Operand.const (Value.int IntKind.i64 (Int.ofNat 2))) (Operand.tmp 24) 3, guard := none, bef := [13, 12] },
                            { dst := some 26, op := Op.fieldAddr 26 (Operand.tmp 1) 7, guard := none }, { dst := some 27, op := Op.fieldAddr 24 (Operand.tmp 26) 1, guard := none, bef := [15] },
                            { dst := some 28, op := Op.load 3 (Operand.tmp 27), guard := none, bef := [16, 15] },
                            { dst := some 29, op := Op.binOp BinOp.add 3 (Operand.tmp 25) (Operand.tmp 28) 3, guard := none, bef := [14, 13, 12, 17, 16, 15] },
                            { dst := some 30, op := Op.binOp BinOp.leq 3 (Operand.tmp 22) (Operand.tmp 29) 3, guard := none,
                              bef := [11, 4, 3, 1, 0, 2, 10, 9, 6, 5, 8, 7, 18, 14, 13, 12, 17, 16, 15] }]).seq
                      (IC.cond (Operand.tmp 30) ((IC.ops [{ dst := some 2, op := Op.assign (Operand.const (Value.bool false)), guard := none }]).seq IC.ret) IC.skip))).seq
                (IC.ops
                  [{ dst := some 9, op := Op.move (Operand.tmp 3), guard := none },
                    { dst := some 10, op := Op.binOp BinOp.add 3 (Operand.tmp 9) (Operand.const (Value.int IntKind.i64 (Int.ofNat 1))) 3, guard := none },
                    { dst := some 3, op := Op.assign (Operand.tmp 10), guard := none }]))).loop)).seq
    ((IC.ops [{ dst := some 2, op := Op.assign (Operand.const (Value.bool true)), guard := none }]).seq IC.ret))
theorem ic38_eq : Try.f38.body.map comp = some ic38 := by kernel_rfl
theorem ic38_ok : Try.f38.body.map (okC Try.f38.ntmps) = some true := by kernel_rfl
theorem ic38_nm : (Try.f38.name != "runtime.NumGoroutine") = true := by kernel_rfl
@[simp] theorem ic38_n : Try.f38.ntmps = 31 := by kernel_rfl
@[simp] theorem ic38_r : Try.f38.results.toList = [ResultVar.tmp 2] := by kernel_rfl

def ic39 : IC :=
  (IC.ops [{ dst := some 2, op := Op.box 26 (Operand.tmp 0), guard := none }, { dst := some 4, op := Op.alloc 3, guard := none }, { dst := some 5, op := Op.alloc 3, guard := none }]).seq
  ((IC.ops [{ dst := some 6, op := Op.alloc 4, guard := none }, { dst := none, op := Op.store 4 (Operand.tmp 6) (Operand.const (Value.bool true)), guard := none }]).seq
    (((IC.ops
              [{ dst := some 9, op := Op.load 26 (Operand.tmp 2), guard := none }, { dst := some 10, op := Op.move (Operand.tmp 1), guard := none },
                { dst := some 11, op := Op.call { callee := Callee.value (Operand.func 43), args := { toList := [Operand.tmp 9, Operand.tmp 10] }, argTypes := { toList := [26, 3] } },
                  guard := none }]).seq
          (IC.block 0
            (IC.range (Operand.tmp 11) { toList := [12, 13] }
              ((IC.ops [{ dst := some 7, op := Op.assign (Operand.tmp 12), guard := none }]).seq (IC.ops [{ dst := some 8, op := Op.assign (Operand.tmp 13), guard := none }]))
              (IC.block 1
                ((IC.opsD
                      [{ dst := some 14, op := Op.load 4 (Operand.tmp 6), guard := none }, { dst := some 15, op := Op.move (Operand.tmp 14), guard := none, bef := [0] },
                        { dst := some 16, op := Op.move (Operand.tmp 8), guard := some (some 15, false), bef := [1, 0] },
                        { dst := some 17, op := Op.call { callee := Callee.value (Operand.func 40), args := { toList := [Operand.tmp 16] }, argTypes := { toList := [3] } },
                          guard := some (some 15, false), bef := [2, 1, 0] },
                        { dst := some 18, op := Op.load 3 (Operand.tmp 5), guard := some (some 15, false), bef := [1, 0] },
                        { dst := some 19, op := Op.call { callee := Callee.value (Operand.func 40), args := { toList := [Operand.tmp 18] }, argTypes := { toList := [3] } },
                          guard := some (some 15, false), bef := [4, 1, 0, 3, 2] },
                        { dst := some 20, op := Op.binOp BinOp.lss 3 (Operand.tmp 17) (Operand.tmp 19) 3, guard := some (some 15, false), bef := [3, 2, 1, 0, 5, 4] },
                        { dst := some 21, op := Op.pick (Operand.tmp 15) (Operand.const (Value.bool true)) (Operand.tmp 20), guard := none, bef := [1, 0, 6, 3, 2, 5, 4] }]).seq
                  (IC.cond (Operand.tmp 21)
                    (IC.ops
                      [{ dst := some 22, op := Op.move (Operand.tmp 7), guard := none }, { dst := some 23, op := Op.move (Operand.tmp 8), guard := none },
                        { dst := none, op := Op.store 3 (Operand.tmp 4) (Operand.tmp 22), guard := none }, { dst := none, op := Op.store 3 (Operand.tmp 5) (Operand.tmp 23), guard := none },
                        { dst := none, op := Op.store 4 (Operand.tmp 6) (Operand.const (Value.bool false)), guard := none }])
                    IC.skip)))))).seq
      ((IC.opsD
            [{ dst := some 24, op := Op.load 3 (Operand.tmp 4), guard := none }, { dst := some 25, op := Op.load 3 (Operand.tmp 5), guard := none },
              { dst := none, op := Op.store 3 (Operand.tmp 4) (Operand.tmp 24), guard := none, bef := [0] },
              { dst := none, op := Op.store 3 (Operand.tmp 5) (Operand.tmp 25), guard := none, bef := [1, 2, 0] }]).seq
        IC.ret)))
theorem ic39_eq : Try.f39.body.map comp = some ic39 := by kernel_rfl
theorem ic39_ok : Try.f39.body.map (okC Try.f39.ntmps) = some true := by kernel_rfl
theorem ic39_nm : (Try.f39.name != "runtime.NumGoroutine") = true := by kernel_rfl
@[simp] theorem ic39_n : Try.f39.ntmps = 26 := by kernel_rfl
@[simp] theorem ic39_r : Try.f39.results.toList = [ResultVar.cell 4 3, ResultVar.cell 5 3] := by kernel_rfl

def ic40 : IC :=
  (IC.ops [{ dst := some 2, op := Op.assign (Operand.const (Value.int IntKind.i64 (Int.ofNat 0))), guard := none }]).seq
  ((IC.ops
        [{ dst := some 3, op := Op.move (Operand.tmp 0), guard := none }, { dst := some 4, op := Op.move (Operand.tmp 0), guard := none },
          { dst := some 5, op := Op.unOp UnOp.neg 3 (Operand.tmp 4), guard := none },
          { dst := some 6, op := Op.call { callee := Callee.builtin Builtin.max, args := { toList := [Operand.tmp 3, Operand.tmp 5] }, argTypes := { toList := [3, 3] } }, guard := none },
          { dst := some 2, op := Op.assign (Operand.tmp 6), guard := none }]).seq
    IC.ret)
theorem ic40_eq : Try.f40.body.map comp = some ic40 := by kernel_rfl
theorem ic40_ok : Try.f40.body.map (okC Try.f40.ntmps) = some true := by kernel_rfl
theorem ic40_nm : (Try.f40.name != "runtime.NumGoroutine") = true := by kernel_rfl
@[simp] theorem ic40_n : Try.f40.ntmps = 7 := by kernel_rfl
@[simp] theorem ic40_r : Try.f40.results.toList = [ResultVar.tmp 2] := by kernel_rfl

def ic41 : IC :=
  (IC.ops [{ dst := some 5, op := Op.move (Operand.const (Value.int IntKind.i64 (Int.ofNat 0))), guard := none }]).seq
  (IC.block 0
    ((IC.ops [{ dst := some 6, op := Op.binOp BinOp.lss 3 (Operand.tmp 5) (Operand.const (Value.int IntKind.i64 (Int.ofNat 16))) 3, guard := none }]).seq
        ((IC.cond (Operand.tmp 6) IC.skip (IC.exit 0)).seq
          ((IC.block 1
                ((IC.ops [{ dst := some 7, op := Op.move (Operand.tmp 5), guard := none }, { dst := some 3, op := Op.assign (Operand.tmp 7), guard := none }]).seq
                  ((IC.ops [{ dst := some 8, op := Op.move (Operand.const (Value.int IntKind.i64 (Int.ofNat 0))), guard := none }]).seq
                    (IC.block 2
                      ((IC.ops [{ dst := some 9, op := Op.binOp BinOp.lss 3 (Operand.tmp 8) (Operand.const (Value.int IntKind.i64 (Int.ofNat 2))) 3, guard := none }]).seq
                          ((IC.cond (Operand.tmp 9) IC.skip (IC.exit 2)).seq
                            ((IC.block 3
                                  ((IC.ops [{ dst := some 10, op := Op.move (Operand.tmp 8), guard := none }, { dst := some 4, op := Op.assign (Operand.tmp 10), guard := none }]).seq
                                    ((IC.ops
                                          [{ dst := some 11, op := Op.load 26 (Operand.tmp 1), guard := none }, { dst := some 12, op := Op.move (Operand.tmp 3), guard := none },
                                            { dst := some 13, op := Op.move (Operand.tmp 4), guard := none },
                                            { dst := some 14,
                                              op :=
                                                Op.call
                                                  { callee := Callee.value (Operand.func 27), args := { toList := [Operand.tmp 11, Operand.tmp 12, Operand.tmp 13] },
                                                    argTypes := { toList := [26, 3, 3] } },
                                              guard := none },
                                            { dst := some 15, op := Op.move (Operand.tmp 14), guard := none }, { dst := some 16, op := Op.move (Operand.tmp 0), guard := some (some 15, true) },
                                            { dst := some 17, op := Op.move (Operand.tmp 3), guard := some (some 15, true) },
                                            { dst := some 18, op := Op.move (Operand.tmp 4), guard := some (some 15, true) },
                                            { dst := some 19,
                                              op := Op.call { callee := Callee.value (Operand.tmp 16), args := { toList := [Operand.tmp 17, Operand.tmp 18] }, argTypes := { toList := [3, 3] } },
                                              guard := some (some 15, true) },
                                            { dst := some 20, op := Op.unOp UnOp.not 4 (Operand.tmp 19), guard := some (some 15, true) },
                                            { dst := some 21, op := Op.pick (Operand.tmp 15) (Operand.tmp 20) (Operand.const (Value.bool false)), guard := none }]).seq
                                      (IC.cond (Operand.tmp 21) IC.ret IC.skip)))).seq
                              (IC.ops
                                [{ dst := some 22, op := Op.binOp BinOp.add 3 (Operand.tmp 8) (Operand.const (Value.int IntKind.i64 (Int.ofNat 1))) 3, guard := none },
                                  { dst := some 8, op := Op.move (Operand.tmp 22), guard := none }])))).loop)))).seq
            (IC.ops
              [{ dst := some 23, op := Op.binOp BinOp.add 3 (Operand.tmp 5) (Operand.const (Value.int IntKind.i64 (Int.ofNat 1))) 3, guard := none },
                { dst := some 5, op := Op.move (Operand.tmp 23), guard := none }])))).loop)
theorem ic41_eq : Try.f41.body.map comp = some ic41 := by kernel_rfl
theorem ic41_ok : Try.f41.body.map (okC Try.f41.ntmps) = some true := by kernel_rfl
theorem ic41_nm : (Try.f41.name != "runtime.NumGoroutine") = true := by kernel_rfl
@[simp] theorem ic41_n : Try.f41.ntmps = 24 := by kernel_rfl
@[simp] theorem ic41_r : Try.f41.results.toList = [] := by kernel_rfl

def ic42 : IC :=
  (IC.ops [{ dst := some 6, op := Op.assign (Operand.const (Value.int IntKind.i64 (Int.ofNat 0))), guard := none }]).seq
  ((IC.ops
        [{ dst := some 7, op := Op.move (Operand.tmp 2), guard := none },
          { dst := some 8,
            op := Op.call { callee := Callee.builtin Builtin.max, args := { toList := [Operand.tmp 7, Operand.const (Value.int IntKind.i64 (Int.ofNat 0))] }, argTypes := { toList := [3, 3] } },
            guard := none },
          { dst := some 2, op := Op.assign (Operand.tmp 8), guard := none }]).seq
    (((IC.ops
              [{ dst := some 9, op := Op.move (Operand.tmp 0), guard := none }, { dst := some 10, op := Op.move (Operand.tmp 1), guard := none },
                { dst := some 11, op := Op.binOp BinOp.lss 3 (Operand.tmp 9) (Operand.tmp 10) 3, guard := none }]).seq
          (IC.cond (Operand.tmp 11)
            ((IC.ops
                  [{ dst := some 12, op := Op.move (Operand.tmp 0), guard := none }, { dst := some 13, op := Op.move (Operand.tmp 2), guard := none },
                    { dst := some 14, op := Op.binOp BinOp.add 3 (Operand.tmp 12) (Operand.tmp 13) 3, guard := none }, { dst := some 15, op := Op.move (Operand.tmp 1), guard := none },
                    { dst := some 16, op := Op.call { callee := Callee.builtin Builtin.min, args := { toList := [Operand.tmp 14, Operand.tmp 15] }, argTypes := { toList := [3, 3] } }, guard := none },
                    { dst := some 6, op := Op.assign (Operand.tmp 16), guard := none }]).seq
              IC.ret)
            IC.skip)).seq
      ((IC.ops
            [{ dst := some 17, op := Op.move (Operand.tmp 0), guard := none }, { dst := some 18, op := Op.move (Operand.tmp 2), guard := none },
              { dst := some 19, op := Op.binOp BinOp.sub 3 (Operand.tmp 17) (Operand.tmp 18) 3, guard := none }, { dst := some 20, op := Op.move (Operand.tmp 1), guard := none },
              { dst := some 21, op := Op.call { callee := Callee.builtin Builtin.max, args := { toList := [Operand.tmp 19, Operand.tmp 20] }, argTypes := { toList := [3, 3] } }, guard := none },
              { dst := some 6, op := Op.assign (Operand.tmp 21), guard := none }]).seq
        IC.ret)))
theorem ic42_eq : Try.f42.body.map comp = some ic42 := by kernel_rfl
theorem ic42_ok : Try.f42.body.map (okC Try.f42.ntmps) = some true := by kernel_rfl
theorem ic42_nm : (Try.f42.name != "runtime.NumGoroutine") = true := by kernel_rfl
@[simp] theorem ic42_n : Try.f42.ntmps = 22 := by kernel_rfl
@[simp] theorem ic42_r : Try.f42.results.toList = [ResultVar.tmp 6] := by kernel_rfl

def ic43 : IC :=
  (IC.ops
      [{ dst := some 2, op := Op.box 26 (Operand.tmp 0), guard := none }, { dst := some 3, op := Op.box 3 (Operand.tmp 1), guard := none },
        { dst := some 4, op := Op.assign (Operand.const Value.nilFunc), guard := none }]).seq
  ((IC.ops
        [{ dst := some 5, op := Op.makeFunc (Fn.func 44) { toList := [] } { toList := [Operand.tmp 2, Operand.tmp 3] }, guard := none },
          { dst := some 4, op := Op.assign (Operand.tmp 5), guard := none }]).seq
    IC.ret)
theorem ic43_eq : Try.f43.body.map comp = some ic43 := by kernel_rfl
theorem ic43_ok : Try.f43.body.map (okC Try.f43.ntmps) = some true := by kernel_rfl
theorem ic43_nm : (Try.f43.name != "runtime.NumGoroutine") = true := by kernel_rfl
@[simp] theorem ic43_n : Try.f43.ntmps = 6 := by kernel_rfl
@[simp] theorem ic43_r : Try.f43.results.toList = [ResultVar.tmp 4] := by kernel_rfl

def ic44 : IC :=
  (IC.ops
      [{ dst := some 6, op := Op.fieldAddr 26 (Operand.tmp 1) 0, guard := none }, { dst := some 7, op := Op.load 22 (Operand.tmp 6), guard := none },
        { dst := some 8, op := Op.call { callee := Callee.builtin Builtin.len, args := { toList := [Operand.tmp 7] }, argTypes := { toList := [22] } }, guard := none },
        { dst := some 9, op := Op.move (Operand.const (Value.int IntKind.i64 (Int.ofNat 0))), guard := none }]).seq
  (IC.block 0
    ((IC.ops [{ dst := some 10, op := Op.binOp BinOp.lss 3 (Operand.tmp 9) (Operand.tmp 8) 3, guard := none }]).seq
        ((IC.cond (Operand.tmp 10) IC.skip (IC.exit 0)).seq
          ((IC.block 1
                ((IC.ops
                      [{ dst := some 11, op := Op.move (Operand.tmp 9), guard := none }, { dst := some 12, op := Op.indexAddr 22 (Operand.tmp 7) (Operand.tmp 9), guard := none },
                        { dst := some 13, op := Op.load 3 (Operand.tmp 12), guard := none }, { dst := some 4, op := Op.assign (Operand.tmp 11), guard := none },
                        { dst := some 5, op := Op.assign (Operand.tmp 13), guard := none }]).seq
                  ((IC.ops
                        [{ dst := some 14, op := Op.move (Operand.tmp 0), guard := none }, { dst := some 15, op := Op.move (Operand.tmp 4), guard := none },
                          { dst := some 16, op := Op.load 3 (Operand.tmp 2), guard := none }, { dst := some 17, op := Op.move (Operand.tmp 5), guard := none },
                          { dst := some 18, op := Op.binOp BinOp.sub 3 (Operand.tmp 16) (Operand.tmp 17) 3, guard := none },
                          { dst := some 19, op := Op.call { callee := Callee.value (Operand.tmp 14), args := { toList := [Operand.tmp 15, Operand.tmp 18] }, argTypes := { toList := [3, 3] } },
                            guard := none },
                          { dst := some 20, op := Op.unOp UnOp.not 4 (Operand.tmp 19), guard := none }]).seq
                    (IC.cond (Operand.tmp 20) IC.ret IC.skip)))).seq
            (IC.ops
              [{ dst := some 21, op := Op.binOp BinOp.add 3 (Operand.tmp 9) (Operand.const (Value.int IntKind.i64 (Int.ofNat 1))) 3, guard := none },
                { dst := some 9, op := Op.move (Operand.tmp 21), guard := none }])))).loop)
theorem ic44_eq : Try.f44.body.map comp = some ic44 := by kernel_rfl
theorem ic44_ok : Try.f44.body.map (okC Try.f44.ntmps) = some true := by kernel_rfl
theorem ic44_nm : (Try.f44.name != "runtime.NumGoroutine") = true := by kernel_rfl
@[simp] theorem ic44_n : Try.f44.ntmps = 22 := by kernel_rfl
@[simp] theorem ic44_r : Try.f44.results.toList = [] := by kernel_rfl


end Go.Proofs.Ytbimcndnledkdaa
