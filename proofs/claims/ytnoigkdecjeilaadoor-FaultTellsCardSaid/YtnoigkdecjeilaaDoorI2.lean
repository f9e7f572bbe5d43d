/- Contracts of functions of the seat's program, and what follows of them: I2. Conditions are in each statement. -/
import Derived.Test.YtnoigkdecjeilaaDoorRows
import Derived.Test.YtnoigkdecjeilaaDoorV3
import Derived.Test.YtnoigkdecjeilaaDoorLt
set_option linter.unusedSimpArgs false
set_option linter.unusedVariables false
namespace Go.Proofs.YtnoigkdecjeilaaDoor
open Go Go.Proofs Go.Vm

def ic47 : IC :=
  (IC.ops
      [{ dst := some 10, op := Op.assign (Operand.const (Value.slice none 0 0)), guard := none },
        { dst := some 11, op := Op.assign (Operand.const (Value.string { data := { toList := [] } })), guard := none }]).seq
  (((IC.ops
            [{ dst := some 19, op := Op.move (Operand.tmp 2), guard := none },
              { dst := some 20, op := Op.binOp BinOp.lss 3 (Operand.tmp 19) (Operand.const (Value.int IntKind.i64 (Int.ofNat 2))) 3, guard := none },
              { dst := some 21, op := Op.move (Operand.tmp 20), guard := none }, { dst := some 22, op := Op.move (Operand.tmp 2), guard := some (some 21, false) },
              { dst := some 23, op := Op.binOp BinOp.eql 3 (Operand.tmp 22) (Operand.const (Value.int IntKind.i64 (Int.ofNat 10))) 3, guard := some (some 21, false) },
              { dst := some 24, op := Op.pick (Operand.tmp 21) (Operand.const (Value.bool true)) (Operand.tmp 23), guard := none }, { dst := some 25, op := Op.move (Operand.tmp 24), guard := none },
              { dst := some 26, op := Op.move (Operand.tmp 2), guard := some (some 25, false) },
              { dst := some 27, op := Op.binOp BinOp.gtr 3 (Operand.tmp 26) (Operand.const (Value.int IntKind.i64 (Int.ofNat 36))) 3, guard := some (some 25, false) },
              { dst := some 28, op := Op.pick (Operand.tmp 25) (Operand.const (Value.bool true)) (Operand.tmp 27), guard := none }]).seq
        (IC.cond (Operand.tmp 28)
          (IC.ops
            [{ dst := some 29,
                op :=
                  Op.makeInterface 9
                    (Operand.const
                      (Value.string lit4)),
                guard := none },
              { dst := none, op := Op.panic (Operand.tmp 29), guard := none }])
          IC.skip)).seq
    ((IC.ops [{ dst := some 12, op := Op.alloc 114, guard := none }]).seq
      ((IC.ops [{ dst := some 13, op := Op.assign (Operand.const (Value.int IntKind.i64 (Int.ofNat 65))), guard := none }]).seq
        (((IC.ops [{ dst := some 30, op := Op.move (Operand.tmp 3), guard := none }]).seq
              (IC.cond (Operand.tmp 30)
                (IC.ops
                  [{ dst := some 31, op := Op.move (Operand.tmp 1), guard := none }, { dst := some 32, op := Op.unOp UnOp.neg 104 (Operand.tmp 31), guard := none },
                    { dst := some 1, op := Op.assign (Operand.tmp 32), guard := none }])
                IC.skip)).seq
          (((IC.ops
                    [{ dst := some 33, op := Op.move (Operand.tmp 2), guard := none },
                      { dst := some 34, op := Op.call { callee := Callee.value (Operand.func 51), args := { toList := [Operand.tmp 33] }, argTypes := { toList := [3] } }, guard := none }]).seq
                (IC.cond (Operand.tmp 34)
                  ((IC.ops
                        [{ dst := some 35, op := Op.move (Operand.tmp 2), guard := none }, { dst := some 36, op := Op.convert 3 116 (Operand.tmp 35), guard := none },
                          { dst := some 37, op := Op.call { callee := Callee.value (Operand.func 52), args := { toList := [Operand.tmp 36] }, argTypes := { toList := [116] } }, guard := none },
                          { dst := some 38, op := Op.convert 3 116 (Operand.tmp 37), guard := none }, { dst := some 14, op := Op.assign (Operand.tmp 38), guard := none }]).seq
                    ((IC.ops
                          [{ dst := some 39, op := Op.move (Operand.tmp 2), guard := none }, { dst := some 40, op := Op.convert 3 104 (Operand.tmp 39), guard := none },
                            { dst := some 15, op := Op.assign (Operand.tmp 40), guard := none }]).seq
                      ((IC.ops
                            [{ dst := some 41, op := Op.move (Operand.tmp 2), guard := none }, { dst := some 42, op := Op.convert 3 116 (Operand.tmp 41), guard := none },
                              { dst := some 43, op := Op.binOp BinOp.sub 116 (Operand.tmp 42) (Operand.const (Value.int IntKind.u64 (Int.ofNat 1))) 116, guard := none },
                              { dst := some 16, op := Op.assign (Operand.tmp 43), guard := none }]).seq
                        ((IC.block 0
                              (((IC.ops
                                          [{ dst := some 44, op := Op.move (Operand.tmp 1), guard := none }, { dst := some 45, op := Op.move (Operand.tmp 15), guard := none },
                                            { dst := some 46, op := Op.binOp BinOp.geq 104 (Operand.tmp 44) (Operand.tmp 45) 104, guard := none }]).seq
                                      (IC.cond (Operand.tmp 46) IC.skip (IC.exit 0))).seq
                                  (IC.block 1
                                    ((IC.ops
                                          [{ dst := some 47, op := Op.move (Operand.tmp 13), guard := none },
                                            { dst := some 48, op := Op.binOp BinOp.sub 3 (Operand.tmp 47) (Operand.const (Value.int IntKind.i64 (Int.ofNat 1))) 3, guard := none },
                                            { dst := some 13, op := Op.assign (Operand.tmp 48), guard := none }]).seq
                                      ((IC.ops
                                            [{ dst := some 49, op := Op.move (Operand.tmp 13), guard := none }, { dst := some 50, op := Op.move (Operand.tmp 1), guard := none },
                                              { dst := some 51, op := Op.move (Operand.tmp 16), guard := none },
                                              { dst := some 52, op := Op.binOp BinOp.and 116 (Operand.tmp 50) (Operand.tmp 51) 116, guard := none },
                                              { dst := some 53,
                                                op :=
                                                  Op.index 9
                                                    (Operand.const
                                                      (Value.string lit2))
                                                    (Operand.tmp 52),
                                                guard := none },
                                              { dst := some 54, op := Op.indexAddr 114 (Operand.tmp 12) (Operand.tmp 49), guard := none },
                                              { dst := none, op := Op.store 5 (Operand.tmp 54) (Operand.tmp 53), guard := none }]).seq
                                        (IC.ops
                                          [{ dst := some 55, op := Op.move (Operand.tmp 1), guard := none }, { dst := some 56, op := Op.move (Operand.tmp 14), guard := none },
                                            { dst := some 57, op := Op.binOp BinOp.shr 104 (Operand.tmp 55) (Operand.tmp 56) 116, guard := none },
                                            { dst := some 1, op := Op.assign (Operand.tmp 57), guard := none }]))))).loop).seq
                          ((IC.ops
                                [{ dst := some 58, op := Op.move (Operand.tmp 13), guard := none },
                                  { dst := some 59, op := Op.binOp BinOp.sub 3 (Operand.tmp 58) (Operand.const (Value.int IntKind.i64 (Int.ofNat 1))) 3, guard := none },
                                  { dst := some 13, op := Op.assign (Operand.tmp 59), guard := none }]).seq
                            (IC.ops
                              [{ dst := some 60, op := Op.move (Operand.tmp 13), guard := none }, { dst := some 61, op := Op.move (Operand.tmp 1), guard := none },
                                { dst := some 62,
                                  op :=
                                    Op.index 9
                                      (Operand.const
                                        (Value.string lit2))
                                      (Operand.tmp 61),
                                  guard := none },
                                { dst := some 63, op := Op.indexAddr 114 (Operand.tmp 12) (Operand.tmp 60), guard := none },
                                { dst := none, op := Op.store 5 (Operand.tmp 63) (Operand.tmp 62), guard := none }]))))))
                  ((IC.ops
                        [{ dst := some 64, op := Op.move (Operand.tmp 2), guard := none }, { dst := some 65, op := Op.convert 3 104 (Operand.tmp 64), guard := none },
                          { dst := some 17, op := Op.assign (Operand.tmp 65), guard := none }]).seq
                    ((IC.block 2
                          (((IC.ops
                                      [{ dst := some 66, op := Op.move (Operand.tmp 1), guard := none }, { dst := some 67, op := Op.move (Operand.tmp 17), guard := none },
                                        { dst := some 68, op := Op.binOp BinOp.geq 104 (Operand.tmp 66) (Operand.tmp 67) 104, guard := none }]).seq
                                  (IC.cond (Operand.tmp 68) IC.skip (IC.exit 2))).seq
                              (IC.block 3
                                ((IC.ops
                                      [{ dst := some 69, op := Op.move (Operand.tmp 13), guard := none },
                                        { dst := some 70, op := Op.binOp BinOp.sub 3 (Operand.tmp 69) (Operand.const (Value.int IntKind.i64 (Int.ofNat 1))) 3, guard := none },
                                        { dst := some 13, op := Op.assign (Operand.tmp 70), guard := none }]).seq
                                  ((IC.ops
                                        [{ dst := some 71, op := Op.move (Operand.tmp 1), guard := none }, { dst := some 72, op := Op.move (Operand.tmp 17), guard := none },
                                          { dst := some 73, op := Op.binOp BinOp.quo 104 (Operand.tmp 71) (Operand.tmp 72) 104, guard := none },
                                          { dst := some 18, op := Op.assign (Operand.tmp 73), guard := none }]).seq
                                    ((IC.ops
                                          [{ dst := some 74, op := Op.move (Operand.tmp 13), guard := none }, { dst := some 75, op := Op.move (Operand.tmp 1), guard := none },
                                            { dst := some 76, op := Op.move (Operand.tmp 18), guard := none }, { dst := some 77, op := Op.move (Operand.tmp 17), guard := none },
                                            { dst := some 78, op := Op.binOp BinOp.mul 104 (Operand.tmp 76) (Operand.tmp 77) 104, guard := none },
                                            { dst := some 79, op := Op.binOp BinOp.sub 104 (Operand.tmp 75) (Operand.tmp 78) 104, guard := none },
                                            { dst := some 80,
                                              op :=
                                                Op.index 9
                                                  (Operand.const
                                                    (Value.string lit2))
                                                  (Operand.tmp 79),
                                              guard := none },
                                            { dst := some 81, op := Op.indexAddr 114 (Operand.tmp 12) (Operand.tmp 74), guard := none },
                                            { dst := none, op := Op.store 5 (Operand.tmp 81) (Operand.tmp 80), guard := none }]).seq
                                      (IC.ops [{ dst := some 82, op := Op.move (Operand.tmp 18), guard := none }, { dst := some 1, op := Op.assign (Operand.tmp 82), guard := none }])))))).loop).seq
                      ((IC.ops
                            [{ dst := some 83, op := Op.move (Operand.tmp 13), guard := none },
                              { dst := some 84, op := Op.binOp BinOp.sub 3 (Operand.tmp 83) (Operand.const (Value.int IntKind.i64 (Int.ofNat 1))) 3, guard := none },
                              { dst := some 13, op := Op.assign (Operand.tmp 84), guard := none }]).seq
                        (IC.ops
                          [{ dst := some 85, op := Op.move (Operand.tmp 13), guard := none }, { dst := some 86, op := Op.move (Operand.tmp 1), guard := none },
                            { dst := some 87,
                              op :=
                                Op.index 9
                                  (Operand.const
                                    (Value.string lit2))
                                  (Operand.tmp 86),
                              guard := none },
                            { dst := some 88, op := Op.indexAddr 114 (Operand.tmp 12) (Operand.tmp 85), guard := none },
                            { dst := none, op := Op.store 5 (Operand.tmp 88) (Operand.tmp 87), guard := none }])))))).seq
            (((IC.ops [{ dst := some 89, op := Op.move (Operand.tmp 3), guard := none }]).seq
                  (IC.cond (Operand.tmp 89)
                    ((IC.ops
                          [{ dst := some 90, op := Op.move (Operand.tmp 13), guard := none },
                            { dst := some 91, op := Op.binOp BinOp.sub 3 (Operand.tmp 90) (Operand.const (Value.int IntKind.i64 (Int.ofNat 1))) 3, guard := none },
                            { dst := some 13, op := Op.assign (Operand.tmp 91), guard := none }]).seq
                      (IC.ops
                        [{ dst := some 92, op := Op.move (Operand.tmp 13), guard := none }, { dst := some 93, op := Op.indexAddr 114 (Operand.tmp 12) (Operand.tmp 92), guard := none },
                          { dst := none, op := Op.store 5 (Operand.tmp 93) (Operand.const (Value.int IntKind.u8 (Int.ofNat 45))), guard := none }]))
                    IC.skip)).seq
              (((IC.ops [{ dst := some 94, op := Op.move (Operand.tmp 4), guard := none }]).seq
                    (IC.cond (Operand.tmp 94)
                      ((IC.ops
                            [{ dst := some 95, op := Op.move (Operand.tmp 0), guard := none }, { dst := some 96, op := Op.move (Operand.tmp 13), guard := none },
                              { dst := some 97, op := Op.slice 114 (Operand.tmp 12) (some (Operand.tmp 96)) none none, guard := none },
                              { dst := some 98, op := Op.call { callee := Callee.builtin Builtin.append, args := { toList := [Operand.tmp 95, Operand.tmp 97] }, argTypes := { toList := [107, 107] } },
                                guard := none },
                              { dst := some 10, op := Op.assign (Operand.tmp 98), guard := none }]).seq
                        IC.ret)
                      IC.skip)).seq
                ((IC.ops
                      [{ dst := some 99, op := Op.move (Operand.tmp 13), guard := none }, { dst := some 100, op := Op.slice 114 (Operand.tmp 12) (some (Operand.tmp 99)) none none, guard := none },
                        { dst := some 101, op := Op.convert 107 9 (Operand.tmp 100), guard := none }, { dst := some 11, op := Op.assign (Operand.tmp 101), guard := none }]).seq
                  IC.ret))))))))
theorem ic47_eq : Tryd.f47.body.map comp = some ic47 := by kernel_rfl
theorem ic47_ok : Tryd.f47.body.map (okC Tryd.f47.ntmps) = some true := by kernel_rfl
theorem ic47_nm : (Tryd.f47.name != "runtime.NumGoroutine") = true := by kernel_rfl
@[simp] theorem ic47_n : Tryd.f47.ntmps = 102 := by kernel_rfl
@[simp] theorem ic47_r : Tryd.f47.results.toList = [ResultVar.tmp 10, ResultVar.tmp 11] := by kernel_rfl

def ic48 : IC :=
  (IC.ops [{ dst := some 2, op := Op.assign (Operand.const (Value.int IntKind.i64 (Int.ofNat 0))), guard := none }]).seq
  ((IC.ops
        [{ dst := some 3, op := Op.move (Operand.tmp 0), guard := none },
          { dst := some 4, op := Op.binOp BinOp.mul 3 (Operand.tmp 3) (Operand.const (Value.int IntKind.i64 (Int.ofNat 78913))) 3, guard := none },
          { dst := some 5, op := Op.binOp BinOp.shr 3 (Operand.tmp 4) (Operand.const (Value.int IntKind.u64 (Int.ofNat 18))) 116, guard := none },
          { dst := some 2, op := Op.assign (Operand.tmp 5), guard := none }]).seq
    IC.ret)
theorem ic48_eq : Tryd.f48.body.map comp = some ic48 := by kernel_rfl
theorem ic48_ok : Tryd.f48.body.map (okC Tryd.f48.ntmps) = some true := by kernel_rfl
theorem ic48_nm : (Tryd.f48.name != "runtime.NumGoroutine") = true := by kernel_rfl
@[simp] theorem ic48_n : Tryd.f48.ntmps = 6 := by kernel_rfl
@[simp] theorem ic48_r : Tryd.f48.results.toList = [ResultVar.tmp 2] := by kernel_rfl

def ic49 : IC :=
  (IC.ops [{ dst := some 2, op := Op.assign (Operand.const (Value.int IntKind.i64 (Int.ofNat 0))), guard := none }]).seq
  (((IC.ops
            [{ dst := some 3, op := Op.move (Operand.tmp 0), guard := none },
              { dst := some 4, op := Op.binOp BinOp.geq 104 (Operand.tmp 3) (Operand.const (Value.int IntKind.u64 (Int.ofNat 4294967296))) 104, guard := none }]).seq
        (IC.cond (Operand.tmp 4)
          ((IC.ops
                [{ dst := some 5, op := Op.move (Operand.tmp 0), guard := none },
                  { dst := some 6, op := Op.binOp BinOp.shr 104 (Operand.tmp 5) (Operand.const (Value.int IntKind.u64 (Int.ofNat 32))) 116, guard := none },
                  { dst := some 0, op := Op.assign (Operand.tmp 6), guard := none }]).seq
            (IC.ops [{ dst := some 2, op := Op.assign (Operand.const (Value.int IntKind.i64 (Int.ofNat 32))), guard := none }]))
          IC.skip)).seq
    (((IC.ops
              [{ dst := some 7, op := Op.move (Operand.tmp 0), guard := none },
                { dst := some 8, op := Op.binOp BinOp.geq 104 (Operand.tmp 7) (Operand.const (Value.int IntKind.u64 (Int.ofNat 65536))) 104, guard := none }]).seq
          (IC.cond (Operand.tmp 8)
            ((IC.ops
                  [{ dst := some 9, op := Op.move (Operand.tmp 0), guard := none },
                    { dst := some 10, op := Op.binOp BinOp.shr 104 (Operand.tmp 9) (Operand.const (Value.int IntKind.u64 (Int.ofNat 16))) 116, guard := none },
                    { dst := some 0, op := Op.assign (Operand.tmp 10), guard := none }]).seq
              (IC.ops
                [{ dst := some 11, op := Op.move (Operand.tmp 2), guard := none },
                  { dst := some 12, op := Op.binOp BinOp.add 3 (Operand.tmp 11) (Operand.const (Value.int IntKind.i64 (Int.ofNat 16))) 3, guard := none },
                  { dst := some 2, op := Op.assign (Operand.tmp 12), guard := none }]))
            IC.skip)).seq
      (((IC.ops
                [{ dst := some 13, op := Op.move (Operand.tmp 0), guard := none },
                  { dst := some 14, op := Op.binOp BinOp.geq 104 (Operand.tmp 13) (Operand.const (Value.int IntKind.u64 (Int.ofNat 256))) 104, guard := none }]).seq
            (IC.cond (Operand.tmp 14)
              ((IC.ops
                    [{ dst := some 15, op := Op.move (Operand.tmp 0), guard := none },
                      { dst := some 16, op := Op.binOp BinOp.shr 104 (Operand.tmp 15) (Operand.const (Value.int IntKind.u64 (Int.ofNat 8))) 116, guard := none },
                      { dst := some 0, op := Op.assign (Operand.tmp 16), guard := none }]).seq
                (IC.ops
                  [{ dst := some 17, op := Op.move (Operand.tmp 2), guard := none },
                    { dst := some 18, op := Op.binOp BinOp.add 3 (Operand.tmp 17) (Operand.const (Value.int IntKind.i64 (Int.ofNat 8))) 3, guard := none },
                    { dst := some 2, op := Op.assign (Operand.tmp 18), guard := none }]))
              IC.skip)).seq
        ((IC.ops
              [{ dst := some 19, op := Op.move (Operand.tmp 2), guard := none }, { dst := some 20, op := Op.move (Operand.tmp 0), guard := none },
                { dst := some 21, op := Op.convert 104 5 (Operand.tmp 20), guard := none },
                { dst := some 22,
                  op :=
                    Op.index 9
                      (Operand.const
                        (Value.string lit5))
                      (Operand.tmp 21),
                  guard := none },
                { dst := some 23, op := Op.convert 5 3 (Operand.tmp 22), guard := none }, { dst := some 24, op := Op.binOp BinOp.add 3 (Operand.tmp 19) (Operand.tmp 23) 3, guard := none },
                { dst := some 2, op := Op.assign (Operand.tmp 24), guard := none }]).seq
          IC.ret))))
theorem ic49_eq : Tryd.f49.body.map comp = some ic49 := by kernel_rfl
theorem ic49_ok : Tryd.f49.body.map (okC Tryd.f49.ntmps) = some true := by kernel_rfl
theorem ic49_nm : (Tryd.f49.name != "runtime.NumGoroutine") = true := by kernel_rfl
@[simp] theorem ic49_n : Tryd.f49.ntmps = 25 := by kernel_rfl
@[simp] theorem ic49_r : Tryd.f49.results.toList = [ResultVar.tmp 2] := by kernel_rfl

def ic50 : IC :=
  (IC.ops [{ dst := some 2, op := Op.assign (Operand.const (Value.int IntKind.i64 (Int.ofNat 0))), guard := none }]).seq
  (((IC.ops [{ dst := some 3, op := Op.move (Operand.tmp 0), guard := none }]).seq
        (IC.cond (Operand.tmp 3) ((IC.ops [{ dst := some 2, op := Op.assign (Operand.const (Value.int IntKind.i64 (Int.ofNat 1))), guard := none }]).seq IC.ret) IC.skip)).seq
    ((IC.ops [{ dst := some 2, op := Op.assign (Operand.const (Value.int IntKind.i64 (Int.ofNat 0))), guard := none }]).seq IC.ret))
theorem ic50_eq : Tryd.f50.body.map comp = some ic50 := by kernel_rfl
theorem ic50_ok : Tryd.f50.body.map (okC Tryd.f50.ntmps) = some true := by kernel_rfl
theorem ic50_nm : (Tryd.f50.name != "runtime.NumGoroutine") = true := by kernel_rfl
@[simp] theorem ic50_n : Tryd.f50.ntmps = 4 := by kernel_rfl
@[simp] theorem ic50_r : Tryd.f50.results.toList = [ResultVar.tmp 2] := by kernel_rfl

def ic51 : IC :=
  (IC.ops [{ dst := some 2, op := Op.assign (Operand.const (Value.bool false)), guard := none }]).seq
  ((IC.ops
        [{ dst := some 3, op := Op.move (Operand.tmp 0), guard := none }, { dst := some 4, op := Op.move (Operand.tmp 0), guard := none },
          { dst := some 5, op := Op.binOp BinOp.sub 3 (Operand.tmp 4) (Operand.const (Value.int IntKind.i64 (Int.ofNat 1))) 3, guard := none },
          { dst := some 6, op := Op.binOp BinOp.and 3 (Operand.tmp 3) (Operand.tmp 5) 3, guard := none },
          { dst := some 7, op := Op.binOp BinOp.eql 3 (Operand.tmp 6) (Operand.const (Value.int IntKind.i64 (Int.ofNat 0))) 3, guard := none },
          { dst := some 2, op := Op.assign (Operand.tmp 7), guard := none }]).seq
    IC.ret)
theorem ic51_eq : Tryd.f51.body.map comp = some ic51 := by kernel_rfl
theorem ic51_ok : Tryd.f51.body.map (okC Tryd.f51.ntmps) = some true := by kernel_rfl
theorem ic51_nm : (Tryd.f51.name != "runtime.NumGoroutine") = true := by kernel_rfl
@[simp] theorem ic51_n : Tryd.f51.ntmps = 8 := by kernel_rfl
@[simp] theorem ic51_r : Tryd.f51.results.toList = [ResultVar.tmp 2] := by kernel_rfl

def ic72 : IC :=
  (IC.ops [{ dst := some 1, op := Op.box 65 (Operand.tmp 0), guard := none }, { dst := some 2, op := Op.assign (Operand.const (Value.string { data := { toList := [] } })), guard := none }]).seq
  ((IC.ops
        [{ dst := some 3, op := Op.fieldAddr 65 (Operand.tmp 1) 0, guard := none }, { dst := some 4, op := Op.load 30 (Operand.tmp 3), guard := none },
          { dst := some 5, op := Op.call { callee := Callee.value (Operand.func 31), args := { toList := [Operand.tmp 4] }, argTypes := { toList := [30] } }, guard := none },
          { dst := some 2, op := Op.assign (Operand.tmp 5), guard := none }]).seq
    IC.ret)
theorem ic72_eq : Tryd.f72.body.map comp = some ic72 := by kernel_rfl
theorem ic72_ok : Tryd.f72.body.map (okC Tryd.f72.ntmps) = some true := by kernel_rfl
theorem ic72_nm : (Tryd.f72.name != "runtime.NumGoroutine") = true := by kernel_rfl
@[simp] theorem ic72_n : Tryd.f72.ntmps = 6 := by kernel_rfl
@[simp] theorem ic72_r : Tryd.f72.results.toList = [ResultVar.tmp 2] := by kernel_rfl

def ic73 : IC :=
  (IC.ops [{ dst := some 2, op := Op.box 65 (Operand.tmp 0), guard := none }, { dst := some 4, op := Op.assign (Operand.const (Value.bool false)), guard := none }]).seq
  ((IC.ops
        [{ dst := some 8, op := Op.move (Operand.tmp 1), guard := none },
          { dst := some 9, op := Op.call { callee := Callee.value (Operand.func 13), args := { toList := [Operand.tmp 8] }, argTypes := { toList := [27] } }, guard := none },
          { dst := some 7, op := Op.move (Operand.tmp 9), guard := none }, { dst := some 10, op := Op.extract (Operand.tmp 7) 0, guard := none },
          { dst := some 11, op := Op.extract (Operand.tmp 7) 1, guard := none }, { dst := some 5, op := Op.alloc 30, guard := none },
          { dst := none, op := Op.store 30 (Operand.tmp 5) (Operand.tmp 10), guard := none }, { dst := some 6, op := Op.assign (Operand.tmp 11), guard := none }]).seq
    ((IC.ops
          [{ dst := some 12, op := Op.move (Operand.tmp 6), guard := none }, { dst := some 13, op := Op.move (Operand.tmp 12), guard := none },
            { dst := some 14, op := Op.fieldAddr 30 (Operand.tmp 5) 0, guard := some (some 13, true) }, { dst := some 15, op := Op.load 22 (Operand.tmp 14), guard := some (some 13, true) },
            { dst := some 16, op := Op.fieldAddr 65 (Operand.tmp 2) 0, guard := some (some 13, true) }, { dst := some 17, op := Op.fieldAddr 30 (Operand.tmp 16) 0, guard := some (some 13, true) },
            { dst := some 18, op := Op.load 22 (Operand.tmp 17), guard := some (some 13, true) },
            { dst := some 19, op := Op.binOp BinOp.eql 22 (Operand.tmp 15) (Operand.tmp 18) 22, guard := some (some 13, true) },
            { dst := some 20, op := Op.pick (Operand.tmp 13) (Operand.tmp 19) (Operand.const (Value.bool false)), guard := none },
            { dst := some 4, op := Op.assign (Operand.tmp 20), guard := none }]).seq
      IC.ret))
theorem ic73_eq : Tryd.f73.body.map comp = some ic73 := by kernel_rfl
theorem ic73_ok : Tryd.f73.body.map (okC Tryd.f73.ntmps) = some true := by kernel_rfl
theorem ic73_nm : (Tryd.f73.name != "runtime.NumGoroutine") = true := by kernel_rfl
@[simp] theorem ic73_n : Tryd.f73.ntmps = 21 := by kernel_rfl
@[simp] theorem ic73_r : Tryd.f73.results.toList = [ResultVar.tmp 4] := by kernel_rfl

def ic74 : IC :=
  (IC.ops [{ dst := some 1, op := Op.box 70 (Operand.tmp 0), guard := none }, { dst := some 2, op := Op.assign (Operand.const (Value.string { data := { toList := [] } })), guard := none }]).seq
  ((IC.opsD
        [{ dst := some 3, op := Op.fieldAddr 70 (Operand.tmp 1) 0, guard := none }, { dst := some 4, op := Op.load 9 (Operand.tmp 3), guard := none, bef := [0] },
          { dst := some 5,
            op := Op.binOp BinOp.add 9 (Operand.tmp 4) (Operand.const (Value.string { data := { toList := [58, 32] } })) 9,
            guard := none, bef := [1, 0] },
          { dst := some 6, op := Op.fieldAddr 70 (Operand.tmp 1) 1, guard := none }, { dst := some 7, op := Op.load 27 (Operand.tmp 6), guard := none, bef := [3] },
          { dst := some 8, op := Op.call { callee := Callee.invoke (Operand.tmp 7) "Error", args := { toList := [] }, argTypes := { toList := [] } }, guard := none, bef := [4, 3] },
          { dst := some 9, op := Op.binOp BinOp.add 9 (Operand.tmp 5) (Operand.tmp 8) 9, guard := none, bef := [2, 1, 0, 5, 4, 3] },
          { dst := some 2, op := Op.assign (Operand.tmp 9), guard := none, bef := [6, 2, 1, 0, 5, 4, 3] }]).seq
    IC.ret)
theorem ic74_eq : Tryd.f74.body.map comp = some ic74 := by kernel_rfl
theorem ic74_ok : Tryd.f74.body.map (okC Tryd.f74.ntmps) = some true := by kernel_rfl
theorem ic74_nm : (Tryd.f74.name != "runtime.NumGoroutine") = true := by kernel_rfl
@[simp] theorem ic74_n : Tryd.f74.ntmps = 10 := by kernel_rfl
@[simp] theorem ic74_r : Tryd.f74.results.toList = [ResultVar.tmp 2] := by kernel_rfl

def ic75 : IC :=
  (IC.ops [{ dst := some 1, op := Op.box 70 (Operand.tmp 0), guard := none }, { dst := some 2, op := Op.assign (Operand.const Value.nilIface), guard := none }]).seq
  ((IC.ops
        [{ dst := some 3, op := Op.fieldAddr 70 (Operand.tmp 1) 1, guard := none }, { dst := some 4, op := Op.load 27 (Operand.tmp 3), guard := none },
          { dst := some 2, op := Op.assign (Operand.tmp 4), guard := none }]).seq
    IC.ret)
theorem ic75_eq : Tryd.f75.body.map comp = some ic75 := by kernel_rfl
theorem ic75_ok : Tryd.f75.body.map (okC Tryd.f75.ntmps) = some true := by kernel_rfl
theorem ic75_nm : (Tryd.f75.name != "runtime.NumGoroutine") = true := by kernel_rfl
@[simp] theorem ic75_n : Tryd.f75.ntmps = 5 := by kernel_rfl
@[simp] theorem ic75_r : Tryd.f75.results.toList = [ResultVar.tmp 2] := by kernel_rfl

-- f91: no body
-- f93: no body

end Go.Proofs.YtnoigkdecjeilaaDoor
