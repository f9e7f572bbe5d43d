/- Contracts of functions of the seat's program, and what follows of them: I2. Conditions are in each statement. -/
import Derived.Test.YtmjhpniegjiocaaRows
import Derived.Test.YtmjhpniegjiocaaV3
set_option linter.unusedSimpArgs false
set_option linter.unusedVariables false
namespace Go.Proofs.Ytmjhpniegjiocaa
open Go Go.Proofs Go.Vm

def ic22 : IC :=
  (IC.ops [{ dst := some 1, op := Op.box 26 (Operand.tmp 0), guard := none }, { dst := some 2, op := Op.assign (Operand.const (Value.string { data := { toList := [] } })), guard := none }]).seq
  (((IC.ops
            [{ dst := some 4, op := Op.load 26 (Operand.tmp 1), guard := none },
              { dst := some 5, op := Op.call { callee := Callee.value (Operand.func 35), args := { toList := [Operand.tmp 4] }, argTypes := { toList := [26] } }, guard := none },
              { dst := some 6, op := Op.unOp UnOp.not 4 (Operand.tmp 5), guard := none }]).seq
        (IC.cond (Operand.tmp 6)
          ((IC.ops
                [{ dst := some 2,
                    op :=
                      Op.assign
                        (Operand.const
                          (Value.string
                            {
                              data :=
                                {
                                  toList :=
                                    [108, 101, 118, 101,
                                      108, 115] } })),
                    guard := none }]).seq
            IC.ret)
          IC.skip)).seq
    (((IC.ops
              [{ dst := some 7, op := Op.load 26 (Operand.tmp 1), guard := none },
                { dst := some 8, op := Op.call { callee := Callee.value (Operand.func 36), args := { toList := [Operand.tmp 7] }, argTypes := { toList := [26] } }, guard := none },
                { dst := some 9, op := Op.unOp UnOp.not 4 (Operand.tmp 8), guard := none }]).seq
          (IC.cond (Operand.tmp 9)
            ((IC.ops
                  [{ dst := some 2,
                      op :=
                        Op.assign
                          (Operand.const
                            (Value.string
                              {
                                data :=
                                  {
                                    toList :=
                                      [111, 112, 101,
                                        110] } })),
                      guard := none }]).seq
              IC.ret)
            IC.skip)).seq
      (((IC.ops
                [{ dst := some 10, op := Op.fieldAddr 26 (Operand.tmp 1) 8, guard := none }, { dst := some 11, op := Op.fieldAddr 24 (Operand.tmp 10) 0, guard := none },
                  { dst := some 12, op := Op.load 3 (Operand.tmp 11), guard := none },
                  { dst := some 13, op := Op.binOp BinOp.lss 3 (Operand.tmp 12) (Operand.const (Value.int IntKind.i64 (Int.ofNat 1))) 3, guard := none },
                  { dst := some 14, op := Op.move (Operand.tmp 13), guard := none }, { dst := some 15, op := Op.fieldAddr 26 (Operand.tmp 1) 8, guard := some (some 14, false) },
                  { dst := some 16, op := Op.fieldAddr 24 (Operand.tmp 15) 1, guard := some (some 14, false) }, { dst := some 17, op := Op.load 3 (Operand.tmp 16), guard := some (some 14, false) },
                  { dst := some 18, op := Op.fieldAddr 26 (Operand.tmp 1) 8, guard := some (some 14, false) },
                  { dst := some 19, op := Op.fieldAddr 24 (Operand.tmp 18) 0, guard := some (some 14, false) }, { dst := some 20, op := Op.load 3 (Operand.tmp 19), guard := some (some 14, false) },
                  { dst := some 21, op := Op.binOp BinOp.lss 3 (Operand.tmp 17) (Operand.tmp 20) 3, guard := some (some 14, false) },
                  { dst := some 22, op := Op.pick (Operand.tmp 14) (Operand.const (Value.bool true)) (Operand.tmp 21), guard := none },
                  { dst := some 23, op := Op.move (Operand.tmp 22), guard := none }, { dst := some 24, op := Op.fieldAddr 26 (Operand.tmp 1) 7, guard := some (some 23, false) },
                  { dst := some 25, op := Op.fieldAddr 24 (Operand.tmp 24) 0, guard := some (some 23, false) }, { dst := some 26, op := Op.load 3 (Operand.tmp 25), guard := some (some 23, false) },
                  { dst := some 27, op := Op.fieldAddr 26 (Operand.tmp 1) 8, guard := some (some 23, false) },
                  { dst := some 28, op := Op.fieldAddr 24 (Operand.tmp 27) 1, guard := some (some 23, false) }, { dst := some 29, op := Op.load 3 (Operand.tmp 28), guard := some (some 23, false) },
                  { dst := some 30, op := Op.binOp BinOp.lss 3 (Operand.tmp 26) (Operand.tmp 29) 3, guard := some (some 23, false) },
                  { dst := some 31, op := Op.pick (Operand.tmp 23) (Operand.const (Value.bool true)) (Operand.tmp 30), guard := none },
                  { dst := some 32, op := Op.move (Operand.tmp 31), guard := none }, { dst := some 33, op := Op.fieldAddr 26 (Operand.tmp 1) 7, guard := some (some 32, false) },
                  { dst := some 34, op := Op.fieldAddr 24 (Operand.tmp 33) 1, guard := some (some 32, false) }, { dst := some 35, op := Op.load 3 (Operand.tmp 34), guard := some (some 32, false) },
                  { dst := some 36, op := Op.fieldAddr 26 (Operand.tmp 1) 7, guard := some (some 32, false) },
                  { dst := some 37, op := Op.fieldAddr 24 (Operand.tmp 36) 0, guard := some (some 32, false) }, { dst := some 38, op := Op.load 3 (Operand.tmp 37), guard := some (some 32, false) },
                  { dst := some 39, op := Op.binOp BinOp.lss 3 (Operand.tmp 35) (Operand.tmp 38) 3, guard := some (some 32, false) },
                  { dst := some 40, op := Op.pick (Operand.tmp 32) (Operand.const (Value.bool true)) (Operand.tmp 39), guard := none },
                  { dst := some 41, op := Op.move (Operand.tmp 40), guard := none }, { dst := some 42, op := Op.fieldAddr 26 (Operand.tmp 1) 7, guard := some (some 41, false) },
                  { dst := some 43, op := Op.fieldAddr 24 (Operand.tmp 42) 1, guard := some (some 41, false) }, { dst := some 44, op := Op.load 3 (Operand.tmp 43), guard := some (some 41, false) },
                  { dst := some 45, op := Op.binOp BinOp.gtr 3 (Operand.tmp 44) (Operand.const (Value.int IntKind.i64 (Int.ofNat 1000))) 3, guard := some (some 41, false) },
                  { dst := some 46, op := Op.pick (Operand.tmp 41) (Operand.const (Value.bool true)) (Operand.tmp 45), guard := none }]).seq
            (IC.cond (Operand.tmp 46)
              ((IC.ops
                    [{ dst := some 2,
                        op :=
                          Op.assign
                            (Operand.const
                              (Value.string
                                {
                                  data :=
                                    {
                                      toList :=
                                        [115, 112, 101, 101,
                                          100, 115] } })),
                        guard := none }]).seq
                IC.ret)
              IC.skip)).seq
        (((IC.ops
                  [{ dst := some 47, op := Op.fieldAddr 26 (Operand.tmp 1) 10, guard := none }, { dst := some 48, op := Op.load 3 (Operand.tmp 47), guard := none },
                    { dst := some 49,
                      op :=
                        Op.call
                          { callee := Callee.value (Operand.func 37),
                            args := { toList := [Operand.tmp 48, Operand.const (Value.int IntKind.i64 (Int.ofNat 1)), Operand.const (Value.int IntKind.i64 (Int.ofNat 1000))] },
                            argTypes := { toList := [3, 3, 3] } },
                      guard := none },
                    { dst := some 50, op := Op.unOp UnOp.not 4 (Operand.tmp 49), guard := none }]).seq
              (IC.cond (Operand.tmp 50)
                ((IC.ops
                      [{ dst := some 2,
                          op :=
                            Op.assign
                              (Operand.const
                                (Value.string
                                  {
                                    data :=
                                      {
                                        toList :=
                                          [114, 97, 109,
                                            112] } })),
                          guard := none }]).seq
                  IC.ret)
                IC.skip)).seq
          (((IC.ops
                    [{ dst := some 51, op := Op.fieldAddr 26 (Operand.tmp 1) 9, guard := none }, { dst := some 52, op := Op.load 3 (Operand.tmp 51), guard := none },
                      { dst := some 53, op := Op.fieldAddr 26 (Operand.tmp 1) 8, guard := none }, { dst := some 54, op := Op.fieldAddr 24 (Operand.tmp 53) 0, guard := none },
                      { dst := some 55, op := Op.load 3 (Operand.tmp 54), guard := none },
                      { dst := some 56, op := Op.binOp BinOp.sub 3 (Operand.tmp 55) (Operand.const (Value.int IntKind.i64 (Int.ofNat 1))) 3, guard := none },
                      { dst := some 57,
                        op :=
                          Op.call
                            { callee := Callee.value (Operand.func 37), args := { toList := [Operand.tmp 52, Operand.const (Value.int IntKind.i64 (Int.ofNat 0)), Operand.tmp 56] },
                              argTypes := { toList := [3, 3, 3] } },
                        guard := none },
                      { dst := some 58, op := Op.unOp UnOp.not 4 (Operand.tmp 57), guard := none }]).seq
                (IC.cond (Operand.tmp 58)
                  ((IC.ops
                        [{ dst := some 2,
                            op :=
                              Op.assign
                                (Operand.const
                                  (Value.string
                                    {
                                      data :=
                                        {
                                          toList :=
                                            [108, 101, 97,
                                              107] } })),
                            guard := none }]).seq
                    IC.ret)
                  IC.skip)).seq
            (((IC.ops
                      [{ dst := some 59, op := Op.fieldAddr 26 (Operand.tmp 1) 13, guard := none }, { dst := some 60, op := Op.load 3 (Operand.tmp 59), guard := none },
                        { dst := some 61,
                          op :=
                            Op.call
                              { callee := Callee.value (Operand.func 37),
                                args := { toList := [Operand.tmp 60, Operand.const (Value.int IntKind.i64 (Int.ofNat 0)), Operand.const (Value.int IntKind.i64 (Int.ofNat 500))] },
                                argTypes := { toList := [3, 3, 3] } },
                          guard := none },
                        { dst := some 62, op := Op.unOp UnOp.not 4 (Operand.tmp 61), guard := none }]).seq
                  (IC.cond (Operand.tmp 62)
                    ((IC.ops
                          [{ dst := some 2,
                              op :=
                                Op.assign
                                  (Operand.const
                                    (Value.string
                                      {
                                        data :=
                                          {
                                            toList :=
                                              [115, 116, 97,
                                                114] } })),
                              guard := none }]).seq
                      IC.ret)
                    IC.skip)).seq
              ((IC.opsD
                    [{ dst := some 63, op := Op.fieldAddr 26 (Operand.tmp 1) 8, guard := none }, { dst := some 64, op := Op.fieldAddr 24 (Operand.tmp 63) 1, guard := none, bef := [0] },
                      { dst := some 65, op := Op.load 3 (Operand.tmp 64), guard := none, bef := [1, 0] }, { dst := some 66, op := Op.fieldAddr 26 (Operand.tmp 1) 8, guard := none },
                      { dst := some 67, op := Op.fieldAddr 24 (Operand.tmp 66) 1, guard := none, bef := [3] }, { dst := some 68, op := Op.load 3 (Operand.tmp 67), guard := none, bef := [4, 3] },
                      { dst := some 69, op := Op.fieldAddr 26 (Operand.tmp 1) 10, guard := none }, { dst := some 70, op := Op.load 3 (Operand.tmp 69), guard := none, bef := [6] },
                      { dst := some 71, op := Op.call { callee := Callee.value (Operand.func 33), args := { toList := [Operand.tmp 68, Operand.tmp 70] }, argTypes := { toList := [3, 3] } },
                        guard := none, bef := [5, 4, 3, 7, 6] },
                      { dst := some 72, op := Op.binOp BinOp.add 3 (Operand.tmp 65) (Operand.tmp 71) 3, guard := none, bef := [2, 1, 0, 8, 5, 4, 3, 7, 6] },
                      { dst := some 3, op := Op.assign (Operand.tmp 72), guard := none, bef := [9, 2, 1, 0, 8, 5, 4, 3, 7, 6] }]).seq
                (((IC.ops
                          [{ dst := some 73, op := Op.fieldAddr 26 (Operand.tmp 1) 4, guard := none }, { dst := some 74, op := Op.load 3 (Operand.tmp 73), guard := none },
                            { dst := some 75, op := Op.move (Operand.tmp 3), guard := none },
                            { dst := some 76,
                              op :=
                                Op.call
                                  { callee := Callee.value (Operand.func 37), args := { toList := [Operand.tmp 74, Operand.tmp 75, Operand.const (Value.int IntKind.i64 (Int.ofNat 1000000))] },
                                    argTypes := { toList := [3, 3, 3] } },
                              guard := none },
                            { dst := some 77, op := Op.unOp UnOp.not 4 (Operand.tmp 76), guard := none }]).seq
                      (IC.cond (Operand.tmp 77)
                        ((IC.ops
                              [{ dst := some 2,
                                  op :=
                                    Op.assign
                                      (Operand.const
                                        (Value.string
                                          {
                                            data :=
                                              {
                                                toList :=
                                                  [108, 101, 118,
                                                    101, 108] } })),
                                  guard := none }]).seq
                          IC.ret)
                        IC.skip)).seq
                  (((IC.ops
                            [{ dst := some 78, op := Op.fieldAddr 26 (Operand.tmp 1) 5, guard := none }, { dst := some 79, op := Op.load 3 (Operand.tmp 78), guard := none },
                              { dst := some 80, op := Op.fieldAddr 26 (Operand.tmp 1) 4, guard := none }, { dst := some 81, op := Op.load 3 (Operand.tmp 80), guard := none },
                              { dst := some 82,
                                op :=
                                  Op.call
                                    { callee := Callee.value (Operand.func 37), args := { toList := [Operand.tmp 79, Operand.tmp 81, Operand.const (Value.int IntKind.i64 (Int.ofNat 1000000))] },
                                      argTypes := { toList := [3, 3, 3] } },
                                guard := none },
                              { dst := some 83, op := Op.unOp UnOp.not 4 (Operand.tmp 82), guard := none }]).seq
                        (IC.cond (Operand.tmp 83)
                          ((IC.ops
                                [{ dst := some 2,
                                    op :=
                                      Op.assign
                                        (Operand.const
                                          (Value.string
                                            {
                                              data :=
                                                {
                                                  toList :=
                                                    [99, 114, 101,
                                                      101, 112] } })),
                                    guard := none }]).seq
                            IC.ret)
                          IC.skip)).seq
                    (((IC.opsD
                              [{ dst := some 84, op := Op.fieldAddr 26 (Operand.tmp 1) 3, guard := none }, { dst := some 85, op := Op.load 3 (Operand.tmp 84), guard := none, bef := [0] },
                                { dst := some 86, op := Op.fieldAddr 26 (Operand.tmp 1) 5, guard := none }, { dst := some 87, op := Op.load 3 (Operand.tmp 86), guard := none, bef := [2] },
                                { dst := some 88, op := Op.fieldAddr 26 (Operand.tmp 1) 9, guard := none }, { dst := some 89, op := Op.load 3 (Operand.tmp 88), guard := none, bef := [4] },
                                { dst := some 90, op := Op.fieldAddr 26 (Operand.tmp 1) 13, guard := none }, { dst := some 91, op := Op.load 3 (Operand.tmp 90), guard := none, bef := [6] },
                                { dst := some 92, op := Op.binOp BinOp.add 3 (Operand.tmp 91) (Operand.const (Value.int IntKind.i64 (Int.ofNat 4))) 3, guard := none, bef := [7, 6] },
                                { dst := some 93, op := Op.fieldAddr 26 (Operand.tmp 1) 8, guard := none }, { dst := some 94, op := Op.fieldAddr 24 (Operand.tmp 93) 1, guard := none, bef := [9] },
                                { dst := some 95, op := Op.load 3 (Operand.tmp 94), guard := none, bef := [10, 9] }, { dst := some 96, op := Op.fieldAddr 26 (Operand.tmp 1) 10, guard := none },
                                { dst := some 97, op := Op.load 3 (Operand.tmp 96), guard := none, bef := [12] },
                                { dst := some 98, op := Op.call { callee := Callee.value (Operand.func 34), args := { toList := [Operand.tmp 95, Operand.tmp 97] }, argTypes := { toList := [3, 3] } },
                                  guard := none, bef := [11, 10, 9, 13, 12] },
                                { dst := some 99, op := Op.binOp BinOp.add 3 (Operand.tmp 92) (Operand.tmp 98) 3, guard := none, bef := [8, 7, 6, 14, 11, 10, 9, 13, 12] },
                                { dst := some 100, op := Op.binOp BinOp.mul 3 (Operand.tmp 89) (Operand.tmp 99) 3, guard := none, bef := [5, 4, 15, 8, 7, 6, 14, 11, 10, 9, 13, 12] },
                                { dst := some 101, op := Op.binOp BinOp.add 3 (Operand.tmp 87) (Operand.tmp 100) 3, guard := none, bef := [3, 2, 16, 5, 4, 15, 8, 7, 6, 14, 11, 10, 9, 13, 12] },
                                { dst := some 102,
                                  op :=
                                    Op.call
                                      { callee := Callee.value (Operand.func 37), args := { toList := [Operand.tmp 85, Operand.tmp 101, Operand.const (Value.int IntKind.i64 (Int.ofNat 1000000))] },
                                        argTypes := { toList := [3, 3, 3] } },
                                  guard := none, bef := [1, 0, 17, 3, 2, 16, 5, 4, 15, 8, 7, 6, 14, 11, 10, 9, 13, 12] },
                                { dst := some 103, op := Op.unOp UnOp.not 4 (Operand.tmp 102), guard := none, bef := [18, 1, 0, 17, 3, 2, 16, 5, 4, 15, 8, 7, 6, 14, 11, 10, 9, 13, 12] },
                                { dst := some 104, op := Op.move (Operand.tmp 103), guard := none, bef := [19, 18, 1, 0, 17, 3, 2, 16, 5, 4, 15, 8, 7, 6, 14, 11, 10, 9, 13, 12] },
                                { dst := some 105, op := Op.fieldAddr 26 (Operand.tmp 1) 3, guard := some (some 104, false),
                                  bef := [20, 19, 18, 1, 0, 17, 3, 2, 16, 5, 4, 15, 8, 7, 6, 14, 11, 10, 9, 13, 12] },
                                { dst := some 106, op := Op.load 3 (Operand.tmp 105), guard := some (some 104, false),
                                  bef := [21, 20, 19, 18, 1, 0, 17, 3, 2, 16, 5, 4, 15, 8, 7, 6, 14, 11, 10, 9, 13, 12] },
                                { dst := some 107, op := Op.binOp BinOp.mul 3 (Operand.const (Value.int IntKind.i64 (Int.ofNat 2))) (Operand.tmp 106) 3, guard := some (some 104, false),
                                  bef := [22, 21, 20, 19, 18, 1, 0, 17, 3, 2, 16, 5, 4, 15, 8, 7, 6, 14, 11, 10, 9, 13, 12] },
                                { dst := some 108, op := Op.fieldAddr 26 (Operand.tmp 1) 7, guard := some (some 104, false),
                                  bef := [20, 19, 18, 1, 0, 17, 3, 2, 16, 5, 4, 15, 8, 7, 6, 14, 11, 10, 9, 13, 12] },
                                { dst := some 109, op := Op.fieldAddr 24 (Operand.tmp 108) 1, guard := some (some 104, false),
                                  bef := [24, 20, 19, 18, 1, 0, 17, 3, 2, 16, 5, 4, 15, 8, 7, 6, 14, 11, 10, 9, 13, 12] },
                                { dst := some 110, op := Op.load 3 (Operand.tmp 109), guard := some (some 104, false),
                                  bef := [25, 24, 20, 19, 18, 1, 0, 17, 3, 2, 16, 5, 4, 15, 8, 7, 6, 14, 11, 10, 9, 13, 12] },
                                { dst := some 111, op := Op.binOp BinOp.lss 3 (Operand.tmp 107) (Operand.tmp 110) 3, guard := some (some 104, false),
                                  bef := [23, 22, 21, 20, 19, 18, 1, 0, 17, 3, 2, 16, 5, 4, 15, 8, 7, 6, 14, 11, 10, 9, 13, 12, 26, 25, 24] },
                                { dst := some 112, op := Op.pick (Operand.tmp 104) (Operand.const (Value.bool true)) (Operand.tmp 111), guard := none,
                                  bef := [20, 19, 18, 1, 0, 17, 3, 2, 16, 5, 4, 15, 8, 7, 6, 14, 11, 10, 9, 13, 12, 27, 23, 22, 21, 26, 25, 24] }]).seq
                          (IC.cond (Operand.tmp 112)
                            ((IC.ops
                                  [{ dst := some 2,
                                      op :=
                                        Op.assign
                                          (Operand.const
                                            (Value.string
                                              {
                                                data :=
                                                  {
                                                    toList :=
                                                      [118, 97, 110,
                                                        101] } })),
                                      guard := none }]).seq
                              IC.ret)
                            IC.skip)).seq
                      (((IC.ops
                                [{ dst := some 113, op := Op.fieldAddr 26 (Operand.tmp 1) 2, guard := none }, { dst := some 114, op := Op.load 3 (Operand.tmp 113), guard := none },
                                  { dst := some 115, op := Op.fieldAddr 26 (Operand.tmp 1) 3, guard := none }, { dst := some 116, op := Op.load 3 (Operand.tmp 115), guard := none },
                                  { dst := some 117, op := Op.move (Operand.tmp 3), guard := none },
                                  { dst := some 118, op := Op.binOp BinOp.add 3 (Operand.tmp 116) (Operand.tmp 117) 3, guard := none },
                                  { dst := some 119,
                                    op :=
                                      Op.call
                                        { callee := Callee.value (Operand.func 37), args := { toList := [Operand.tmp 114, Operand.tmp 118, Operand.const (Value.int IntKind.i64 (Int.ofNat 1000000))] },
                                          argTypes := { toList := [3, 3, 3] } },
                                    guard := none },
                                  { dst := some 120, op := Op.unOp UnOp.not 4 (Operand.tmp 119), guard := none }]).seq
                            (IC.cond (Operand.tmp 120)
                              ((IC.ops
                                    [{ dst := some 2,
                                        op :=
                                          Op.assign
                                            (Operand.const
                                              (Value.string
                                                {
                                                  data :=
                                                    {
                                                      toList :=
                                                        [104, 97, 108,
                                                          102] } })),
                                        guard := none }]).seq
                                IC.ret)
                              IC.skip)).seq
                        (((IC.opsD
                                  [{ dst := some 121, op := Op.fieldAddr 26 (Operand.tmp 1) 6, guard := none }, { dst := some 122, op := Op.load 3 (Operand.tmp 121), guard := none, bef := [0] },
                                    { dst := some 123, op := Op.fieldAddr 26 (Operand.tmp 1) 2, guard := none }, { dst := some 124, op := Op.load 3 (Operand.tmp 123), guard := none, bef := [2] },
                                    { dst := some 125, op := Op.fieldAddr 26 (Operand.tmp 1) 7, guard := none },
                                    { dst := some 126, op := Op.fieldAddr 24 (Operand.tmp 125) 1, guard := none, bef := [4] },
                                    { dst := some 127, op := Op.load 3 (Operand.tmp 126), guard := none, bef := [5, 4] },
                                    { dst := some 128, op := Op.binOp BinOp.add 3 (Operand.tmp 124) (Operand.tmp 127) 3, guard := none, bef := [3, 2, 6, 5, 4] },
                                    { dst := some 129, op := Op.fieldAddr 26 (Operand.tmp 1) 7, guard := none },
                                    { dst := some 130, op := Op.fieldAddr 24 (Operand.tmp 129) 1, guard := none, bef := [8] },
                                    { dst := some 131, op := Op.load 3 (Operand.tmp 130), guard := none, bef := [9, 8] }, { dst := some 132, op := Op.fieldAddr 26 (Operand.tmp 1) 10, guard := none },
                                    { dst := some 133, op := Op.load 3 (Operand.tmp 132), guard := none, bef := [11] },
                                    { dst := some 134,
                                      op := Op.call { callee := Callee.value (Operand.func 33), args := { toList := [Operand.tmp 131, Operand.tmp 133] }, argTypes := { toList := [3, 3] } },
                                      guard := none, bef := [10, 9, 8, 12, 11] },
                                    { dst := some 135, op := Op.binOp BinOp.add 3 (Operand.tmp 128) (Operand.tmp 134) 3, guard := none, bef := [7, 3, 2, 6, 5, 4, 13, 10, 9, 8, 12, 11] },
                                    { dst := some 136,
                                      op :=
                                        Op.call
                                          { callee := Callee.value (Operand.func 37),
                                            args := { toList := [Operand.tmp 122, Operand.tmp 135, Operand.const (Value.int IntKind.i64 (Int.ofNat 1000000))] }, argTypes := { toList := [3, 3, 3] } },
                                      guard := none, bef := [1, 0, 14, 7, 3, 2, 6, 5, 4, 13, 10, 9, 8, 12, 11] },
                                    { dst := some 137, op := Op.unOp UnOp.not 4 (Operand.tmp 136), guard := none, bef := [15, 1, 0, 14, 7, 3, 2, 6, 5, 4, 13, 10, 9, 8, 12, 11] },
                                    { dst := some 138, op := Op.move (Operand.tmp 137), guard := none, bef := [16, 15, 1, 0, 14, 7, 3, 2, 6, 5, 4, 13, 10, 9, 8, 12, 11] },
                                    { dst := some 139, op := Op.load 26 (Operand.tmp 1), guard := some (some 138, false), bef := [17, 16, 15, 1, 0, 14, 7, 3, 2, 6, 5, 4, 13, 10, 9, 8, 12, 11] },
                                    { dst := some 140, op := Op.call { callee := Callee.value (Operand.func 38), args := { toList := [Operand.tmp 139] }, argTypes := { toList := [26] } },
                                      guard := some (some 138, false), bef := [18, 17, 16, 15, 1, 0, 14, 7, 3, 2, 6, 5, 4, 13, 10, 9, 8, 12, 11] },
                                    { dst := some 141, op := Op.unOp UnOp.not 4 (Operand.tmp 140), guard := some (some 138, false),
                                      bef := [19, 18, 17, 16, 15, 1, 0, 14, 7, 3, 2, 6, 5, 4, 13, 10, 9, 8, 12, 11] },
                                    { dst := some 142, op := Op.pick (Operand.tmp 138) (Operand.const (Value.bool true)) (Operand.tmp 141), guard := none,
                                      bef := [17, 16, 15, 1, 0, 14, 7, 3, 2, 6, 5, 4, 13, 10, 9, 8, 12, 11, 20, 19, 18] }]).seq
                              (IC.cond (Operand.tmp 142)
                                ((IC.ops
                                      [{ dst := some 2,
                                          op :=
                                            Op.assign
                                              (Operand.const
                                                (Value.string
                                                  {
                                                    data :=
                                                      {
                                                        toList :=
                                                          [110, 101, 97,
                                                            114] } })),
                                          guard := none }]).seq
                                  IC.ret)
                                IC.skip)).seq
                          (((IC.ops
                                    [{ dst := some 143, op := Op.fieldAddr 26 (Operand.tmp 1) 11, guard := none }, { dst := some 144, op := Op.load 3 (Operand.tmp 143), guard := none },
                                      { dst := some 145,
                                        op :=
                                          Op.call
                                            { callee := Callee.value (Operand.func 37),
                                              args := { toList := [Operand.tmp 144, Operand.const (Value.int IntKind.i64 (Int.ofNat 0)), Operand.const (Value.int IntKind.i64 (Int.ofNat 100))] },
                                              argTypes := { toList := [3, 3, 3] } },
                                        guard := none },
                                      { dst := some 146, op := Op.unOp UnOp.not 4 (Operand.tmp 145), guard := none }, { dst := some 147, op := Op.move (Operand.tmp 146), guard := none },
                                      { dst := some 148, op := Op.fieldAddr 26 (Operand.tmp 1) 12, guard := some (some 147, false) },
                                      { dst := some 149, op := Op.load 3 (Operand.tmp 148), guard := some (some 147, false) },
                                      { dst := some 150, op := Op.fieldAddr 26 (Operand.tmp 1) 11, guard := some (some 147, false) },
                                      { dst := some 151, op := Op.load 3 (Operand.tmp 150), guard := some (some 147, false) },
                                      { dst := some 152, op := Op.binOp BinOp.add 3 (Operand.tmp 151) (Operand.const (Value.int IntKind.i64 (Int.ofNat 1))) 3, guard := some (some 147, false) },
                                      { dst := some 153,
                                        op :=
                                          Op.call
                                            { callee := Callee.value (Operand.func 37), args := { toList := [Operand.tmp 149, Operand.tmp 152, Operand.const (Value.int IntKind.i64 (Int.ofNat 200))] },
                                              argTypes := { toList := [3, 3, 3] } },
                                        guard := some (some 147, false) },
                                      { dst := some 154, op := Op.unOp UnOp.not 4 (Operand.tmp 153), guard := some (some 147, false) },
                                      { dst := some 155, op := Op.pick (Operand.tmp 147) (Operand.const (Value.bool true)) (Operand.tmp 154), guard := none }]).seq
                                (IC.cond (Operand.tmp 155)
                                  ((IC.ops
                                        [{ dst := some 2,
                                            op :=
                                              Op.assign
                                                (Operand.const
                                                  (Value.string
                                                    {
                                                      data :=
                                                        {
                                                          toList :=
                                                            [99, 111, 110,
                                                              116, 97, 99,
                                                              116, 115] } })),
                                            guard := none }]).seq
                                    IC.ret)
                                  IC.skip)).seq
                            (((IC.ops
                                      [{ dst := some 156, op := Op.fieldAddr 26 (Operand.tmp 1) 14, guard := none }, { dst := some 157, op := Op.load 3 (Operand.tmp 156), guard := none },
                                        { dst := some 158,
                                          op :=
                                            Op.call
                                              { callee := Callee.value (Operand.func 37),
                                                args := { toList := [Operand.tmp 157, Operand.const (Value.int IntKind.i64 (Int.ofNat 1)), Operand.const (Value.int IntKind.i64 (Int.ofNat 1000000))] },
                                                argTypes := { toList := [3, 3, 3] } },
                                          guard := none },
                                        { dst := some 159, op := Op.unOp UnOp.not 4 (Operand.tmp 158), guard := none }]).seq
                                  (IC.cond (Operand.tmp 159)
                                    ((IC.ops
                                          [{ dst := some 2,
                                              op :=
                                                Op.assign
                                                  (Operand.const
                                                    (Value.string
                                                      { data := { toList := [114, 117, 110] } })),
                                              guard := none }]).seq
                                      IC.ret)
                                    IC.skip)).seq
                              (((IC.ops
                                        [{ dst := some 160, op := Op.fieldAddr 26 (Operand.tmp 1) 15, guard := none }, { dst := some 161, op := Op.load 3 (Operand.tmp 160), guard := none },
                                          { dst := some 162,
                                            op :=
                                              Op.call
                                                { callee := Callee.value (Operand.func 37),
                                                  args := { toList := [Operand.tmp 161, Operand.const (Value.int IntKind.i64 (Int.ofNat 1)), Operand.const (Value.int IntKind.i64 (Int.ofNat 100))] },
                                                  argTypes := { toList := [3, 3, 3] } },
                                            guard := none },
                                          { dst := some 163, op := Op.unOp UnOp.not 4 (Operand.tmp 162), guard := none }, { dst := some 164, op := Op.move (Operand.tmp 163), guard := none },
                                          { dst := some 165, op := Op.fieldAddr 26 (Operand.tmp 1) 16, guard := some (some 164, false) },
                                          { dst := some 166, op := Op.load 3 (Operand.tmp 165), guard := some (some 164, false) },
                                          { dst := some 167,
                                            op :=
                                              Op.call
                                                { callee := Callee.value (Operand.func 37),
                                                  args :=
                                                    { toList := [Operand.tmp 166, Operand.const (Value.int IntKind.i64 (Int.ofNat 1)), Operand.const (Value.int IntKind.i64 (Int.ofNat 1000000))] },
                                                  argTypes := { toList := [3, 3, 3] } },
                                            guard := some (some 164, false) },
                                          { dst := some 168, op := Op.unOp UnOp.not 4 (Operand.tmp 167), guard := some (some 164, false) },
                                          { dst := some 169, op := Op.pick (Operand.tmp 164) (Operand.const (Value.bool true)) (Operand.tmp 168), guard := none }]).seq
                                    (IC.cond (Operand.tmp 169)
                                      ((IC.ops
                                            [{ dst := some 2,
                                                op :=
                                                  Op.assign
                                                    (Operand.const
                                                      (Value.string
                                                        {
                                                          data :=
                                                            {
                                                              toList :=
                                                                [115, 116, 97,
                                                                  114, 116, 115] } })),
                                                guard := none }]).seq
                                        IC.ret)
                                      IC.skip)).seq
                                (((IC.ops
                                          [{ dst := some 170, op := Op.fieldAddr 26 (Operand.tmp 1) 17, guard := none }, { dst := some 171, op := Op.load 3 (Operand.tmp 170), guard := none },
                                            { dst := some 172,
                                              op :=
                                                Op.call
                                                  { callee := Callee.value (Operand.func 37),
                                                    args :=
                                                      { toList := [Operand.tmp 171, Operand.const (Value.int IntKind.i64 (Int.ofNat 1)), Operand.const (Value.int IntKind.i64 (Int.ofNat 1000000))] },
                                                    argTypes := { toList := [3, 3, 3] } },
                                              guard := none },
                                            { dst := some 173, op := Op.unOp UnOp.not 4 (Operand.tmp 172), guard := none }, { dst := some 174, op := Op.move (Operand.tmp 173), guard := none },
                                            { dst := some 175, op := Op.fieldAddr 26 (Operand.tmp 1) 18, guard := some (some 174, false) },
                                            { dst := some 176, op := Op.load 3 (Operand.tmp 175), guard := some (some 174, false) },
                                            { dst := some 177,
                                              op :=
                                                Op.call
                                                  { callee := Callee.value (Operand.func 37),
                                                    args := { toList := [Operand.tmp 176, Operand.const (Value.int IntKind.i64 (Int.ofNat 1)), Operand.const (Value.int IntKind.i64 (Int.ofNat 20))] },
                                                    argTypes := { toList := [3, 3, 3] } },
                                              guard := some (some 174, false) },
                                            { dst := some 178, op := Op.unOp UnOp.not 4 (Operand.tmp 177), guard := some (some 174, false) },
                                            { dst := some 179, op := Op.pick (Operand.tmp 174) (Operand.const (Value.bool true)) (Operand.tmp 178), guard := none }]).seq
                                      (IC.cond (Operand.tmp 179)
                                        ((IC.ops
                                              [{ dst := some 2,
                                                  op :=
                                                    Op.assign
                                                      (Operand.const
                                                        (Value.string
                                                          {
                                                            data :=
                                                              {
                                                                toList :=
                                                                  [103, 97, 116,
                                                                    101, 115] } })),
                                                  guard := none }]).seq
                                          IC.ret)
                                        IC.skip)).seq
                                  ((IC.ops [{ dst := some 2, op := Op.assign (Operand.const (Value.string { data := { toList := [] } })), guard := none }]).seq IC.ret)))))))))))))))))
theorem ic22_eq : Try.f22.body.map comp = some ic22 := by kernel_rfl
theorem ic22_ok : Try.f22.body.map (okC Try.f22.ntmps) = some true := by kernel_rfl
theorem ic22_nm : (Try.f22.name != "runtime.NumGoroutine") = true := by kernel_rfl
@[simp] theorem ic22_n : Try.f22.ntmps = 180 := by kernel_rfl
@[simp] theorem ic22_r : Try.f22.results.toList = [ResultVar.tmp 2] := by kernel_rfl

def ic23 : IC :=
  (IC.ops [{ dst := some 2, op := Op.assign (Operand.const (Value.bool false)), guard := none }]).seq
  ((IC.ops
        [{ dst := some 3, op := Op.move (Operand.tmp 0), guard := none },
          { dst := some 4, op := Op.binOp BinOp.geq 3 (Operand.tmp 3) (Operand.const (Value.int IntKind.i64 (Int.negSucc 2147483647))) 3, guard := none },
          { dst := some 5, op := Op.move (Operand.tmp 4), guard := none }, { dst := some 6, op := Op.move (Operand.tmp 0), guard := some (some 5, true) },
          { dst := some 7, op := Op.binOp BinOp.leq 3 (Operand.tmp 6) (Operand.const (Value.int IntKind.i64 (Int.ofNat 2147483648))) 3, guard := some (some 5, true) },
          { dst := some 8, op := Op.pick (Operand.tmp 5) (Operand.tmp 7) (Operand.const (Value.bool false)), guard := none }, { dst := some 2, op := Op.assign (Operand.tmp 8), guard := none }]).seq
    IC.ret)
theorem ic23_eq : Try.f23.body.map comp = some ic23 := by kernel_rfl
theorem ic23_ok : Try.f23.body.map (okC Try.f23.ntmps) = some true := by kernel_rfl
theorem ic23_nm : (Try.f23.name != "runtime.NumGoroutine") = true := by kernel_rfl
@[simp] theorem ic23_n : Try.f23.ntmps = 9 := by kernel_rfl
@[simp] theorem ic23_r : Try.f23.results.toList = [ResultVar.tmp 2] := by kernel_rfl

def ic24 : IC :=
  (IC.ops [{ dst := some 6, op := Op.assign (Operand.const (Value.int IntKind.i64 (Int.ofNat 0))), guard := none }]).seq
  ((IC.ops
        [{ dst := some 7, op := Op.move (Operand.tmp 2), guard := none },
          { dst := some 8,
            op := Op.call { callee := Callee.builtin Builtin.max, args := { toList := [Operand.tmp 7, Operand.const (Value.int IntKind.i64 (Int.ofNat 0))] }, argTypes := { toList := [3, 3] } },
            guard := none },
          { dst := some 2, op := Op.assign (Operand.tmp 8), guard := none }]).seq
    ((IC.ops
          [{ dst := some 9, op := Op.move (Operand.tmp 0), guard := none }, { dst := some 10, op := Op.move (Operand.tmp 1), guard := none },
            { dst := some 11, op := Op.move (Operand.tmp 0), guard := none }, { dst := some 12, op := Op.binOp BinOp.sub 3 (Operand.tmp 10) (Operand.tmp 11) 3, guard := none },
            { dst := some 13, op := Op.move (Operand.tmp 2), guard := none }, { dst := some 14, op := Op.unOp UnOp.neg 3 (Operand.tmp 13), guard := none },
            { dst := some 15, op := Op.move (Operand.tmp 2), guard := none },
            { dst := some 16, op := Op.call { callee := Callee.value (Operand.func 18), args := { toList := [Operand.tmp 12, Operand.tmp 14, Operand.tmp 15] }, argTypes := { toList := [3, 3, 3] } },
              guard := none },
            { dst := some 17, op := Op.binOp BinOp.add 3 (Operand.tmp 9) (Operand.tmp 16) 3, guard := none }, { dst := some 6, op := Op.assign (Operand.tmp 17), guard := none }]).seq
      IC.ret))
theorem ic24_eq : Try.f24.body.map comp = some ic24 := by kernel_rfl
theorem ic24_ok : Try.f24.body.map (okC Try.f24.ntmps) = some true := by kernel_rfl
theorem ic24_nm : (Try.f24.name != "runtime.NumGoroutine") = true := by kernel_rfl
@[simp] theorem ic24_n : Try.f24.ntmps = 18 := by kernel_rfl
@[simp] theorem ic24_r : Try.f24.results.toList = [ResultVar.tmp 6] := by kernel_rfl

def ic25 : IC :=
  (IC.ops [{ dst := some 2, op := Op.box 26 (Operand.tmp 0), guard := none }, { dst := some 3, op := Op.box 28 (Operand.tmp 1), guard := none }, { dst := some 4, op := Op.alloc 28, guard := none }]).seq
  ((IC.ops
        [{ dst := some 8, op := Op.fieldAddr 26 (Operand.tmp 2) 0, guard := none }, { dst := some 9, op := Op.load 22 (Operand.tmp 8), guard := none },
          { dst := some 10, op := Op.call { callee := Callee.builtin Builtin.len, args := { toList := [Operand.tmp 9] }, argTypes := { toList := [22] } }, guard := none },
          { dst := some 5, op := Op.assign (Operand.tmp 10), guard := none }]).seq
    (((IC.ops
              [{ dst := some 11, op := Op.move (Operand.tmp 5), guard := none },
                { dst := some 12, op := Op.binOp BinOp.eql 3 (Operand.tmp 11) (Operand.const (Value.int IntKind.i64 (Int.ofNat 0))) 3, guard := none }]).seq
          (IC.cond (Operand.tmp 12)
            ((IC.ops [{ dst := some 13, op := Op.load 28 (Operand.tmp 3), guard := none }, { dst := none, op := Op.store 28 (Operand.tmp 4) (Operand.tmp 13), guard := none }]).seq IC.ret)
            IC.skip)).seq
      ((IC.opsD
            [{ dst := some 14, op := Op.fieldAddr 26 (Operand.tmp 2) 0, guard := none }, { dst := some 15, op := Op.load 22 (Operand.tmp 14), guard := none, bef := [0] },
              { dst := some 16, op := Op.indexAddr 22 (Operand.tmp 15) (Operand.const (Value.int IntKind.i64 (Int.ofNat 0))), guard := none, bef := [1, 0] },
              { dst := some 17, op := Op.load 3 (Operand.tmp 16), guard := none, bef := [2, 1, 0] }, { dst := some 18, op := Op.fieldAddr 26 (Operand.tmp 2) 2, guard := none },
              { dst := some 19, op := Op.load 3 (Operand.tmp 18), guard := none, bef := [4] },
              { dst := some 20, op := Op.binOp BinOp.sub 3 (Operand.tmp 17) (Operand.tmp 19) 3, guard := none, bef := [3, 2, 1, 0, 5, 4] },
              { dst := some 21, op := Op.fieldAddr 26 (Operand.tmp 2) 0, guard := none }, { dst := some 22, op := Op.load 22 (Operand.tmp 21), guard := none, bef := [7] },
              { dst := some 23, op := Op.move (Operand.tmp 5), guard := none },
              { dst := some 24, op := Op.binOp BinOp.sub 3 (Operand.tmp 23) (Operand.const (Value.int IntKind.i64 (Int.ofNat 1))) 3, guard := none, bef := [9] },
              { dst := some 25, op := Op.indexAddr 22 (Operand.tmp 22) (Operand.tmp 24), guard := none, bef := [8, 7, 10, 9] },
              { dst := some 26, op := Op.load 3 (Operand.tmp 25), guard := none, bef := [11, 8, 7, 10, 9] }, { dst := some 27, op := Op.fieldAddr 26 (Operand.tmp 2) 2, guard := none },
              { dst := some 28, op := Op.load 3 (Operand.tmp 27), guard := none, bef := [13] },
              { dst := some 29, op := Op.binOp BinOp.add 3 (Operand.tmp 26) (Operand.tmp 28) 3, guard := none, bef := [12, 11, 8, 7, 10, 9, 14, 13] },
              { dst := some 6, op := Op.assign (Operand.tmp 20), guard := none, bef := [6, 3, 2, 1, 0, 5, 4] },
              { dst := some 7, op := Op.assign (Operand.tmp 29), guard := none, bef := [15, 12, 11, 8, 7, 10, 9, 14, 13, 16, 6, 3, 2, 1, 0, 5, 4] }]).seq
        ((IC.block 0
              ((IC.ops
                    [{ dst := some 31, op := Op.fieldAddr 28 (Operand.tmp 3) 0, guard := none }, { dst := some 32, op := Op.load 3 (Operand.tmp 31), guard := none },
                      { dst := some 33, op := Op.move (Operand.tmp 6), guard := none }, { dst := some 34, op := Op.binOp BinOp.lss 3 (Operand.tmp 32) (Operand.tmp 33) 3, guard := none },
                      { dst := some 30, op := Op.assign (Operand.tmp 34), guard := none }]).seq
                (IC.cond (Operand.tmp 30)
                  ((IC.ops
                        [{ dst := some 35, op := Op.move (Operand.tmp 6), guard := none }, { dst := some 36, op := Op.fieldAddr 28 (Operand.tmp 3) 1, guard := none },
                          { dst := some 37, op := Op.load 3 (Operand.tmp 36), guard := none },
                          { dst := some 38,
                            op :=
                              Op.call
                                { callee := Callee.builtin Builtin.max, args := { toList := [Operand.const (Value.int IntKind.i64 (Int.ofNat 0)), Operand.tmp 37] }, argTypes := { toList := [3, 3] } },
                            guard := none },
                          { dst := some 39, op := Op.build 28 { toList := [(0, Operand.tmp 35), (1, Operand.tmp 38)] }, guard := none },
                          { dst := none, op := Op.store 28 (Operand.tmp 4) (Operand.tmp 39), guard := none }]).seq
                    IC.ret)
                  ((IC.ops
                        [{ dst := some 41, op := Op.fieldAddr 28 (Operand.tmp 3) 0, guard := none }, { dst := some 42, op := Op.load 3 (Operand.tmp 41), guard := none },
                          { dst := some 43, op := Op.move (Operand.tmp 7), guard := none }, { dst := some 44, op := Op.binOp BinOp.gtr 3 (Operand.tmp 42) (Operand.tmp 43) 3, guard := none },
                          { dst := some 40, op := Op.assign (Operand.tmp 44), guard := none }]).seq
                    (IC.cond (Operand.tmp 40)
                      ((IC.ops
                            [{ dst := some 45, op := Op.move (Operand.tmp 7), guard := none }, { dst := some 46, op := Op.fieldAddr 28 (Operand.tmp 3) 1, guard := none },
                              { dst := some 47, op := Op.load 3 (Operand.tmp 46), guard := none },
                              { dst := some 48,
                                op :=
                                  Op.call
                                    { callee := Callee.builtin Builtin.min, args := { toList := [Operand.const (Value.int IntKind.i64 (Int.ofNat 0)), Operand.tmp 47] },
                                      argTypes := { toList := [3, 3] } },
                                guard := none },
                              { dst := some 49, op := Op.build 28 { toList := [(0, Operand.tmp 45), (1, Operand.tmp 48)] }, guard := none },
                              { dst := none, op := Op.store 28 (Operand.tmp 4) (Operand.tmp 49), guard := none }]).seq
                        IC.ret)
                      IC.skip))))).seq
          ((IC.ops [{ dst := some 50, op := Op.load 28 (Operand.tmp 3), guard := none }, { dst := none, op := Op.store 28 (Operand.tmp 4) (Operand.tmp 50), guard := none }]).seq IC.ret)))))
theorem ic25_eq : Try.f25.body.map comp = some ic25 := by kernel_rfl
theorem ic25_ok : Try.f25.body.map (okC Try.f25.ntmps) = some true := by kernel_rfl
theorem ic25_nm : (Try.f25.name != "runtime.NumGoroutine") = true := by kernel_rfl
@[simp] theorem ic25_n : Try.f25.ntmps = 51 := by kernel_rfl
@[simp] theorem ic25_r : Try.f25.results.toList = [ResultVar.cell 4 28] := by kernel_rfl

def ic26 : IC :=
  (IC.ops [{ dst := some 6, op := Op.assign (Operand.const (Value.int IntKind.i64 (Int.ofNat 0))), guard := none }]).seq
  ((IC.ops
        [{ dst := some 7, op := Op.move (Operand.tmp 2), guard := none },
          { dst := some 8,
            op := Op.call { callee := Callee.builtin Builtin.max, args := { toList := [Operand.tmp 7, Operand.const (Value.int IntKind.i64 (Int.ofNat 0))] }, argTypes := { toList := [3, 3] } },
            guard := none },
          { dst := some 2, op := Op.assign (Operand.tmp 8), guard := none }]).seq
    (((IC.ops
              [{ dst := some 9, op := Op.move (Operand.tmp 0), guard := none }, { dst := some 10, op := Op.move (Operand.tmp 1), guard := none },
                { dst := some 11, op := Op.binOp BinOp.lss 3 (Operand.tmp 9) (Operand.tmp 10) 3, guard := none }]).seq
          (IC.cond (Operand.tmp 11)
            ((IC.ops
                  [{ dst := some 12, op := Op.move (Operand.tmp 0), guard := none }, { dst := some 13, op := Op.move (Operand.tmp 2), guard := none },
                    { dst := some 14, op := Op.binOp BinOp.add 3 (Operand.tmp 12) (Operand.tmp 13) 3, guard := none }, { dst := some 15, op := Op.move (Operand.tmp 1), guard := none },
                    { dst := some 16, op := Op.call { callee := Callee.builtin Builtin.min, args := { toList := [Operand.tmp 14, Operand.tmp 15] }, argTypes := { toList := [3, 3] } }, guard := none },
                    { dst := some 6, op := Op.assign (Operand.tmp 16), guard := none }]).seq
              IC.ret)
            IC.skip)).seq
      ((IC.ops
            [{ dst := some 17, op := Op.move (Operand.tmp 0), guard := none }, { dst := some 18, op := Op.move (Operand.tmp 2), guard := none },
              { dst := some 19, op := Op.binOp BinOp.sub 3 (Operand.tmp 17) (Operand.tmp 18) 3, guard := none }, { dst := some 20, op := Op.move (Operand.tmp 1), guard := none },
              { dst := some 21, op := Op.call { callee := Callee.builtin Builtin.max, args := { toList := [Operand.tmp 19, Operand.tmp 20] }, argTypes := { toList := [3, 3] } }, guard := none },
              { dst := some 6, op := Op.assign (Operand.tmp 21), guard := none }]).seq
        IC.ret)))
theorem ic26_eq : Try.f26.body.map comp = some ic26 := by kernel_rfl
theorem ic26_ok : Try.f26.body.map (okC Try.f26.ntmps) = some true := by kernel_rfl
theorem ic26_nm : (Try.f26.name != "runtime.NumGoroutine") = true := by kernel_rfl
@[simp] theorem ic26_n : Try.f26.ntmps = 22 := by kernel_rfl
@[simp] theorem ic26_r : Try.f26.results.toList = [ResultVar.tmp 6] := by kernel_rfl

def ic27 : IC :=
  (IC.ops [{ dst := some 6, op := Op.assign (Operand.const (Value.int IntKind.i64 (Int.ofNat 0))), guard := none }]).seq
  (((IC.ops
            [{ dst := some 7, op := Op.move (Operand.tmp 0), guard := none }, { dst := some 8, op := Op.move (Operand.tmp 1), guard := none },
              { dst := some 9, op := Op.binOp BinOp.lss 3 (Operand.tmp 7) (Operand.tmp 8) 3, guard := none }]).seq
        (IC.cond (Operand.tmp 9) ((IC.ops [{ dst := some 10, op := Op.move (Operand.tmp 1), guard := none }, { dst := some 6, op := Op.assign (Operand.tmp 10), guard := none }]).seq IC.ret)
          IC.skip)).seq
    (((IC.ops
              [{ dst := some 11, op := Op.move (Operand.tmp 0), guard := none }, { dst := some 12, op := Op.move (Operand.tmp 2), guard := none },
                { dst := some 13, op := Op.binOp BinOp.gtr 3 (Operand.tmp 11) (Operand.tmp 12) 3, guard := none }]).seq
          (IC.cond (Operand.tmp 13) ((IC.ops [{ dst := some 14, op := Op.move (Operand.tmp 2), guard := none }, { dst := some 6, op := Op.assign (Operand.tmp 14), guard := none }]).seq IC.ret)
            IC.skip)).seq
      ((IC.ops [{ dst := some 15, op := Op.move (Operand.tmp 0), guard := none }, { dst := some 6, op := Op.assign (Operand.tmp 15), guard := none }]).seq IC.ret)))
theorem ic27_eq : Try.f27.body.map comp = some ic27 := by kernel_rfl
theorem ic27_ok : Try.f27.body.map (okC Try.f27.ntmps) = some true := by kernel_rfl
theorem ic27_nm : (Try.f27.name != "runtime.NumGoroutine") = true := by kernel_rfl
@[simp] theorem ic27_n : Try.f27.ntmps = 16 := by kernel_rfl
@[simp] theorem ic27_r : Try.f27.results.toList = [ResultVar.tmp 6] := by kernel_rfl

def ic28 : IC :=
  (IC.ops [{ dst := some 2, op := Op.box 26 (Operand.tmp 0), guard := none }, { dst := some 4, op := Op.assign (Operand.const (Value.int IntKind.i64 (Int.ofNat 0))), guard := none }]).seq
  (((IC.ops
            [{ dst := some 8, op := Op.load 26 (Operand.tmp 2), guard := none },
              { dst := some 9, op := Op.call { callee := Callee.value (Operand.func 39), args := { toList := [Operand.tmp 8] }, argTypes := { toList := [26] } }, guard := none },
              { dst := some 7, op := Op.move (Operand.tmp 9), guard := none }, { dst := some 10, op := Op.extract (Operand.tmp 7) 0, guard := none },
              { dst := some 11, op := Op.extract (Operand.tmp 7) 1, guard := none }, { dst := some 5, op := Op.assign (Operand.tmp 10), guard := none },
              { dst := some 6, op := Op.assign (Operand.tmp 11), guard := none }]).seq
        ((IC.ops [{ dst := some 12, op := Op.move (Operand.tmp 6), guard := none }]).seq
          (IC.cond (Operand.tmp 12) ((IC.ops [{ dst := some 4, op := Op.assign (Operand.const (Value.int IntKind.i64 (Int.ofNat 0))), guard := none }]).seq IC.ret) IC.skip))).seq
    ((IC.ops
          [{ dst := some 13, op := Op.move (Operand.tmp 1), guard := none }, { dst := some 14, op := Op.load 26 (Operand.tmp 2), guard := none },
            { dst := some 15, op := Op.call { callee := Callee.value (Operand.tmp 13), args := { toList := [Operand.tmp 14] }, argTypes := { toList := [26] } }, guard := none },
            { dst := some 4, op := Op.assign (Operand.tmp 15), guard := none }]).seq
      IC.ret))
theorem ic28_eq : Try.f28.body.map comp = some ic28 := by kernel_rfl
theorem ic28_ok : Try.f28.body.map (okC Try.f28.ntmps) = some true := by kernel_rfl
theorem ic28_nm : (Try.f28.name != "runtime.NumGoroutine") = true := by kernel_rfl
@[simp] theorem ic28_n : Try.f28.ntmps = 16 := by kernel_rfl
@[simp] theorem ic28_r : Try.f28.results.toList = [ResultVar.tmp 4] := by kernel_rfl

def ic29 : IC :=
  (IC.ops [{ dst := some 1, op := Op.box 26 (Operand.tmp 0), guard := none }, { dst := some 2, op := Op.assign (Operand.const (Value.int IntKind.i64 (Int.ofNat 0))), guard := none }]).seq
  ((IC.ops
        [{ dst := some 3, op := Op.fieldAddr 26 (Operand.tmp 1) 7, guard := none }, { dst := some 4, op := Op.fieldAddr 24 (Operand.tmp 3) 1, guard := none },
          { dst := some 5, op := Op.load 3 (Operand.tmp 4), guard := none }, { dst := some 6, op := Op.fieldAddr 26 (Operand.tmp 1) 10, guard := none },
          { dst := some 7, op := Op.load 3 (Operand.tmp 6), guard := none },
          { dst := some 8, op := Op.call { callee := Callee.value (Operand.func 40), args := { toList := [Operand.tmp 5, Operand.tmp 7] }, argTypes := { toList := [3, 3] } }, guard := none },
          { dst := some 9, op := Op.binOp BinOp.add 3 (Operand.tmp 8) (Operand.const (Value.int IntKind.i64 (Int.ofNat 1))) 3, guard := none },
          { dst := some 2, op := Op.assign (Operand.tmp 9), guard := none }]).seq
    IC.ret)
theorem ic29_eq : Try.f29.body.map comp = some ic29 := by kernel_rfl
theorem ic29_ok : Try.f29.body.map (okC Try.f29.ntmps) = some true := by kernel_rfl
theorem ic29_nm : (Try.f29.name != "runtime.NumGoroutine") = true := by kernel_rfl
@[simp] theorem ic29_n : Try.f29.ntmps = 10 := by kernel_rfl
@[simp] theorem ic29_r : Try.f29.results.toList = [ResultVar.tmp 2] := by kernel_rfl

def ic30 : IC :=
  (IC.ops [{ dst := some 1, op := Op.box 26 (Operand.tmp 0), guard := none }, { dst := some 2, op := Op.assign (Operand.const (Value.int IntKind.i64 (Int.ofNat 0))), guard := none }]).seq
  ((IC.opsD
        [{ dst := some 3, op := Op.fieldAddr 26 (Operand.tmp 1) 13, guard := none }, { dst := some 4, op := Op.load 3 (Operand.tmp 3), guard := none, bef := [0] },
          { dst := some 5, op := Op.binOp BinOp.add 3 (Operand.tmp 4) (Operand.const (Value.int IntKind.i64 (Int.ofNat 4))) 3, guard := none, bef := [1, 0] },
          { dst := some 6, op := Op.load 26 (Operand.tmp 1), guard := none },
          { dst := some 7, op := Op.call { callee := Callee.value (Operand.func 31), args := { toList := [Operand.tmp 6] }, argTypes := { toList := [26] } }, guard := none, bef := [3] },
          { dst := some 8, op := Op.binOp BinOp.add 3 (Operand.tmp 5) (Operand.tmp 7) 3, guard := none, bef := [2, 1, 0, 4, 3] },
          { dst := some 9, op := Op.fieldAddr 26 (Operand.tmp 1) 3, guard := none }, { dst := some 10, op := Op.load 3 (Operand.tmp 9), guard := none, bef := [6] },
          { dst := some 11, op := Op.fieldAddr 26 (Operand.tmp 1) 9, guard := none }, { dst := some 12, op := Op.load 3 (Operand.tmp 11), guard := none, bef := [8] },
          { dst := some 13, op := Op.load 26 (Operand.tmp 1), guard := none },
          { dst := some 14, op := Op.call { callee := Callee.value (Operand.func 31), args := { toList := [Operand.tmp 13] }, argTypes := { toList := [26] } }, guard := none, bef := [10, 4, 3] },
          { dst := some 15, op := Op.binOp BinOp.mul 3 (Operand.tmp 12) (Operand.tmp 14) 3, guard := none, bef := [9, 8, 11, 10, 4, 3] },
          { dst := some 16, op := Op.binOp BinOp.add 3 (Operand.tmp 10) (Operand.tmp 15) 3, guard := none, bef := [7, 6, 12, 9, 8, 11, 10, 4, 3] },
          { dst := some 17, op := Op.fieldAddr 26 (Operand.tmp 1) 8, guard := none }, { dst := some 18, op := Op.fieldAddr 24 (Operand.tmp 17) 0, guard := none, bef := [14] },
          { dst := some 19, op := Op.load 3 (Operand.tmp 18), guard := none, bef := [15, 14] }, { dst := some 20, op := Op.fieldAddr 26 (Operand.tmp 1) 9, guard := none },
          { dst := some 21, op := Op.load 3 (Operand.tmp 20), guard := none, bef := [17] },
          { dst := some 22, op := Op.binOp BinOp.sub 3 (Operand.tmp 19) (Operand.tmp 21) 3, guard := none, bef := [16, 15, 14, 18, 17] },
          { dst := some 23, op := Op.call { callee := Callee.value (Operand.func 32), args := { toList := [Operand.tmp 16, Operand.tmp 22] }, argTypes := { toList := [3, 3] } }, guard := none,
            bef := [13, 7, 6, 12, 9, 8, 11, 10, 4, 3, 19, 16, 15, 14, 18, 17] },
          { dst := some 24, op := Op.binOp BinOp.add 3 (Operand.tmp 8) (Operand.tmp 23) 3, guard := none, bef := [5, 2, 1, 0, 4, 3, 20, 13, 7, 6, 12, 9, 8, 11, 10, 19, 16, 15, 14, 18, 17] },
          { dst := some 2, op := Op.assign (Operand.tmp 24), guard := none, bef := [21, 5, 2, 1, 0, 4, 3, 20, 13, 7, 6, 12, 9, 8, 11, 10, 19, 16, 15, 14, 18, 17] }]).seq
    IC.ret)
theorem ic30_eq : Try.f30.body.map comp = some ic30 := by kernel_rfl
theorem ic30_ok : Try.f30.body.map (okC Try.f30.ntmps) = some true := by kernel_rfl
theorem ic30_nm : (Try.f30.name != "runtime.NumGoroutine") = true := by kernel_rfl
@[simp] theorem ic30_n : Try.f30.ntmps = 25 := by kernel_rfl
@[simp] theorem ic30_r : Try.f30.results.toList = [ResultVar.tmp 2] := by kernel_rfl

def ic31 : IC :=
  (IC.ops [{ dst := some 1, op := Op.box 26 (Operand.tmp 0), guard := none }, { dst := some 2, op := Op.assign (Operand.const (Value.int IntKind.i64 (Int.ofNat 0))), guard := none }]).seq
  ((IC.ops
        [{ dst := some 3, op := Op.fieldAddr 26 (Operand.tmp 1) 8, guard := none }, { dst := some 4, op := Op.fieldAddr 24 (Operand.tmp 3) 1, guard := none },
          { dst := some 5, op := Op.load 3 (Operand.tmp 4), guard := none }, { dst := some 6, op := Op.fieldAddr 26 (Operand.tmp 1) 10, guard := none },
          { dst := some 7, op := Op.load 3 (Operand.tmp 6), guard := none },
          { dst := some 8, op := Op.call { callee := Callee.value (Operand.func 40), args := { toList := [Operand.tmp 5, Operand.tmp 7] }, argTypes := { toList := [3, 3] } }, guard := none },
          { dst := some 2, op := Op.assign (Operand.tmp 8), guard := none }]).seq
    IC.ret)
theorem ic31_eq : Try.f31.body.map comp = some ic31 := by kernel_rfl
theorem ic31_ok : Try.f31.body.map (okC Try.f31.ntmps) = some true := by kernel_rfl
theorem ic31_nm : (Try.f31.name != "runtime.NumGoroutine") = true := by kernel_rfl
@[simp] theorem ic31_n : Try.f31.ntmps = 9 := by kernel_rfl
@[simp] theorem ic31_r : Try.f31.results.toList = [ResultVar.tmp 2] := by kernel_rfl

def ic32 : IC :=
  (IC.ops [{ dst := some 4, op := Op.assign (Operand.const (Value.int IntKind.i64 (Int.ofNat 0))), guard := none }]).seq
  ((IC.ops
        [{ dst := some 5, op := Op.move (Operand.tmp 0), guard := none }, { dst := some 6, op := Op.unOp UnOp.neg 3 (Operand.tmp 5), guard := none },
          { dst := some 7, op := Op.move (Operand.tmp 1), guard := none },
          { dst := some 8, op := Op.call { callee := Callee.value (Operand.func 41), args := { toList := [Operand.tmp 6, Operand.tmp 7] }, argTypes := { toList := [3, 3] } }, guard := none },
          { dst := some 9, op := Op.unOp UnOp.neg 3 (Operand.tmp 8), guard := none }, { dst := some 4, op := Op.assign (Operand.tmp 9), guard := none }]).seq
    IC.ret)
theorem ic32_eq : Try.f32.body.map comp = some ic32 := by kernel_rfl
theorem ic32_ok : Try.f32.body.map (okC Try.f32.ntmps) = some true := by kernel_rfl
theorem ic32_nm : (Try.f32.name != "runtime.NumGoroutine") = true := by kernel_rfl
@[simp] theorem ic32_n : Try.f32.ntmps = 10 := by kernel_rfl
@[simp] theorem ic32_r : Try.f32.results.toList = [ResultVar.tmp 4] := by kernel_rfl

def ic33 : IC :=
  (IC.ops [{ dst := some 4, op := Op.assign (Operand.const (Value.int IntKind.i64 (Int.ofNat 0))), guard := none }]).seq
  ((IC.ops [{ dst := some 5, op := Op.assign (Operand.const (Value.int IntKind.i64 (Int.ofNat 0))), guard := none }]).seq
    (((IC.ops [{ dst := some 6, op := Op.assign (Operand.const (Value.int IntKind.i64 (Int.ofNat 0))), guard := none }]).seq
          (IC.block 0
            (((IC.ops
                        [{ dst := some 7, op := Op.move (Operand.tmp 0), guard := none },
                          { dst := some 8, op := Op.binOp BinOp.gtr 3 (Operand.tmp 7) (Operand.const (Value.int IntKind.i64 (Int.ofNat 0))) 3, guard := none },
                          { dst := some 9, op := Op.move (Operand.tmp 8), guard := none }, { dst := some 10, op := Op.move (Operand.tmp 6), guard := some (some 9, true) },
                          { dst := some 11, op := Op.binOp BinOp.lss 3 (Operand.tmp 10) (Operand.const (Value.int IntKind.i64 (Int.ofNat 2000))) 3, guard := some (some 9, true) },
                          { dst := some 12, op := Op.pick (Operand.tmp 9) (Operand.tmp 11) (Operand.const (Value.bool false)), guard := none }]).seq
                    (IC.cond (Operand.tmp 12) IC.skip (IC.exit 0))).seq
                ((IC.block 1
                      ((IC.ops
                            [{ dst := some 15, op := Op.move (Operand.tmp 0), guard := none }, { dst := some 16, op := Op.move (Operand.tmp 1), guard := none },
                              { dst := some 17,
                                op :=
                                  Op.call
                                    { callee := Callee.value (Operand.func 26), args := { toList := [Operand.tmp 15, Operand.const (Value.int IntKind.i64 (Int.ofNat 0)), Operand.tmp 16] },
                                      argTypes := { toList := [3, 3, 3] } },
                                guard := none },
                              { dst := some 0, op := Op.assign (Operand.tmp 17), guard := none }]).seq
                        (IC.ops
                          [{ dst := some 18, op := Op.move (Operand.tmp 5), guard := none }, { dst := some 19, op := Op.move (Operand.tmp 0), guard := none },
                            { dst := some 20, op := Op.binOp BinOp.add 3 (Operand.tmp 18) (Operand.tmp 19) 3, guard := none },
                            { dst := some 5, op := Op.assign (Operand.tmp 20), guard := none }]))).seq
                  (IC.ops
                    [{ dst := some 13, op := Op.move (Operand.tmp 6), guard := none },
                      { dst := some 14, op := Op.binOp BinOp.add 3 (Operand.tmp 13) (Operand.const (Value.int IntKind.i64 (Int.ofNat 1))) 3, guard := none },
                      { dst := some 6, op := Op.assign (Operand.tmp 14), guard := none }]))).loop)).seq
      ((IC.ops [{ dst := some 21, op := Op.move (Operand.tmp 5), guard := none }, { dst := some 4, op := Op.assign (Operand.tmp 21), guard := none }]).seq IC.ret)))
theorem ic33_eq : Try.f33.body.map comp = some ic33 := by kernel_rfl
theorem ic33_ok : Try.f33.body.map (okC Try.f33.ntmps) = some true := by kernel_rfl
theorem ic33_nm : (Try.f33.name != "runtime.NumGoroutine") = true := by kernel_rfl
@[simp] theorem ic33_n : Try.f33.ntmps = 22 := by kernel_rfl
@[simp] theorem ic33_r : Try.f33.results.toList = [ResultVar.tmp 4] := by kernel_rfl

def ic34 : IC :=
  (IC.ops [{ dst := some 4, op := Op.assign (Operand.const (Value.int IntKind.i64 (Int.ofNat 0))), guard := none }]).seq
  ((IC.ops [{ dst := some 5, op := Op.assign (Operand.const (Value.int IntKind.i64 (Int.ofNat 0))), guard := none }]).seq
    ((IC.block 0
          (((IC.ops
                      [{ dst := some 6, op := Op.move (Operand.tmp 0), guard := none },
                        { dst := some 7, op := Op.binOp BinOp.gtr 3 (Operand.tmp 6) (Operand.const (Value.int IntKind.i64 (Int.ofNat 0))) 3, guard := none },
                        { dst := some 8, op := Op.move (Operand.tmp 7), guard := none }, { dst := some 9, op := Op.move (Operand.tmp 5), guard := some (some 8, true) },
                        { dst := some 10, op := Op.binOp BinOp.lss 3 (Operand.tmp 9) (Operand.const (Value.int IntKind.i64 (Int.ofNat 2000))) 3, guard := some (some 8, true) },
                        { dst := some 11, op := Op.pick (Operand.tmp 8) (Operand.tmp 10) (Operand.const (Value.bool false)), guard := none }]).seq
                  (IC.cond (Operand.tmp 11) IC.skip (IC.exit 0))).seq
              (IC.block 1
                ((IC.ops
                      [{ dst := some 12, op := Op.move (Operand.tmp 0), guard := none }, { dst := some 13, op := Op.move (Operand.tmp 1), guard := none },
                        { dst := some 14,
                          op :=
                            Op.call
                              { callee := Callee.value (Operand.func 26), args := { toList := [Operand.tmp 12, Operand.const (Value.int IntKind.i64 (Int.ofNat 0)), Operand.tmp 13] },
                                argTypes := { toList := [3, 3, 3] } },
                          guard := none },
                        { dst := some 0, op := Op.assign (Operand.tmp 14), guard := none }]).seq
                  (IC.ops
                    [{ dst := some 15, op := Op.move (Operand.tmp 5), guard := none },
                      { dst := some 16, op := Op.binOp BinOp.add 3 (Operand.tmp 15) (Operand.const (Value.int IntKind.i64 (Int.ofNat 1))) 3, guard := none },
                      { dst := some 5, op := Op.assign (Operand.tmp 16), guard := none }])))).loop).seq
      ((IC.ops [{ dst := some 17, op := Op.move (Operand.tmp 5), guard := none }, { dst := some 4, op := Op.assign (Operand.tmp 17), guard := none }]).seq IC.ret)))
theorem ic34_eq : Try.f34.body.map comp = some ic34 := by kernel_rfl
theorem ic34_ok : Try.f34.body.map (okC Try.f34.ntmps) = some true := by kernel_rfl
theorem ic34_nm : (Try.f34.name != "runtime.NumGoroutine") = true := by kernel_rfl
@[simp] theorem ic34_n : Try.f34.ntmps = 18 := by kernel_rfl
@[simp] theorem ic34_r : Try.f34.results.toList = [ResultVar.tmp 4] := by kernel_rfl

def ic35 : IC :=
  (IC.ops [{ dst := some 1, op := Op.box 26 (Operand.tmp 0), guard := none }, { dst := some 2, op := Op.assign (Operand.const (Value.bool false)), guard := none }]).seq
  (((IC.ops
            [{ dst := some 4, op := Op.fieldAddr 26 (Operand.tmp 1) 0, guard := none }, { dst := some 5, op := Op.load 22 (Operand.tmp 4), guard := none },
              { dst := some 6, op := Op.call { callee := Callee.builtin Builtin.len, args := { toList := [Operand.tmp 5] }, argTypes := { toList := [22] } }, guard := none },
              { dst := some 7, op := Op.binOp BinOp.lss 3 (Operand.tmp 6) (Operand.const (Value.int IntKind.i64 (Int.ofNat 2))) 3, guard := none },
              { dst := some 8, op := Op.move (Operand.tmp 7), guard := none }, { dst := some 9, op := Op.fieldAddr 26 (Operand.tmp 1) 0, guard := some (some 8, false) },
              { dst := some 10, op := Op.load 22 (Operand.tmp 9), guard := some (some 8, false) },
              { dst := some 11, op := Op.call { callee := Callee.builtin Builtin.len, args := { toList := [Operand.tmp 10] }, argTypes := { toList := [22] } }, guard := some (some 8, false) },
              { dst := some 12, op := Op.binOp BinOp.gtr 3 (Operand.tmp 11) (Operand.const (Value.int IntKind.i64 (Int.ofNat 16))) 3, guard := some (some 8, false) },
              { dst := some 13, op := Op.pick (Operand.tmp 8) (Operand.const (Value.bool true)) (Operand.tmp 12), guard := none }, { dst := some 14, op := Op.move (Operand.tmp 13), guard := none },
              { dst := some 15, op := Op.fieldAddr 26 (Operand.tmp 1) 0, guard := some (some 14, false) }, { dst := some 16, op := Op.load 22 (Operand.tmp 15), guard := some (some 14, false) },
              { dst := some 17, op := Op.indexAddr 22 (Operand.tmp 16) (Operand.const (Value.int IntKind.i64 (Int.ofNat 0))), guard := some (some 14, false) },
              { dst := some 18, op := Op.load 3 (Operand.tmp 17), guard := some (some 14, false) },
              { dst := some 19, op := Op.binOp BinOp.neq 3 (Operand.tmp 18) (Operand.const (Value.int IntKind.i64 (Int.ofNat 0))) 3, guard := some (some 14, false) },
              { dst := some 20, op := Op.pick (Operand.tmp 14) (Operand.const (Value.bool true)) (Operand.tmp 19), guard := none }]).seq
        (IC.cond (Operand.tmp 20) ((IC.ops [{ dst := some 2, op := Op.assign (Operand.const (Value.bool false)), guard := none }]).seq IC.ret) IC.skip)).seq
    (((IC.ops [{ dst := some 3, op := Op.assign (Operand.const (Value.int IntKind.i64 (Int.ofNat 1))), guard := none }]).seq
          (IC.block 0
            (((IC.ops
                        [{ dst := some 21, op := Op.move (Operand.tmp 3), guard := none }, { dst := some 22, op := Op.fieldAddr 26 (Operand.tmp 1) 0, guard := none },
                          { dst := some 23, op := Op.load 22 (Operand.tmp 22), guard := none },
                          { dst := some 24, op := Op.call { callee := Callee.builtin Builtin.len, args := { toList := [Operand.tmp 23] }, argTypes := { toList := [22] } }, guard := none },
                          { dst := some 25, op := Op.binOp BinOp.lss 3 (Operand.tmp 21) (Operand.tmp 24) 3, guard := none }]).seq
                    (IC.cond (Operand.tmp 25) IC.skip (IC.exit 0))).seq
                ((IC.block 1
                      ((IC.opsD
                            [{ dst := some 28, op := Op.fieldAddr 26 (Operand.tmp 1) 0, guard := none }, { dst := some 29, op := Op.load 22 (Operand.tmp 28), guard := none, bef := [0] },
                              { dst := some 30, op := Op.move (Operand.tmp 3), guard := none },
                              { dst := some 31, op := Op.indexAddr 22 (Operand.tmp 29) (Operand.tmp 30), guard := none, bef := [1, 0, 2] },
                              { dst := some 32, op := Op.load 3 (Operand.tmp 31), guard := none, bef := [3, 1, 0, 2] }, { dst := some 33, op := Op.fieldAddr 26 (Operand.tmp 1) 0, guard := none },
                              { dst := some 34, op := Op.load 22 (Operand.tmp 33), guard := none, bef := [5] }, { dst := some 35, op := Op.move (Operand.tmp 3), guard := none },
                              { dst := some 36, op := Op.binOp BinOp.sub 3 (Operand.tmp 35) (Operand.const (Value.int IntKind.i64 (Int.ofNat 1))) 3, guard := none, bef := [7] },
                              { dst := some 37, op := Op.indexAddr 22 (Operand.tmp 34) (Operand.tmp 36), guard := none, bef := [6, 5, 8, 7] },
                              { dst := some 38, op := Op.load 3 (Operand.tmp 37), guard := none, bef := [9, 6, 5, 8, 7] },
                              { dst := some 39, op := Op.binOp BinOp.leq 3 (Operand.tmp 32) (Operand.tmp 38) 3, guard := none, bef := [4, 3, 1, 0, 2, 10, 9, 6, 5, 8, 7] },
                              { dst := some 40, op := Op.move (Operand.tmp 39), guard := none, bef := [11, 4, 3, 1, 0, 2, 10, 9, 6, 5, 8, 7] },
                              { dst := some 41, op := Op.fieldAddr 26 (Operand.tmp 1) 0, guard := some (some 40, false), bef := [12, 11, 4, 3, 1, 0, 2, 10, 9, 6, 5, 8, 7] },
                              { dst := some 42, op := Op.load 22 (Operand.tmp 41), guard := some (some 40, false), bef := [13, 12, 11, 4, 3, 1, 0, 2, 10, 9, 6, 5, 8, 7] },
                              { dst := some 43, op := Op.move (Operand.tmp 3), guard := some (some 40, false), bef := [12, 11, 4, 3, 1, 0, 2, 10, 9, 6, 5, 8, 7] },
                              { dst := some 44, op := Op.indexAddr 22 (Operand.tmp 42) (Operand.tmp 43), guard := some (some 40, false),
                                bef := [14, 13, 12, 11, 4, 3, 1, 0, 2, 10, 9, 6, 5, 8, 7, 15] },
                              { dst := some 45, op := Op.load 3 (Operand.tmp 44), guard := some (some 40, false), bef := [16, 14, 13, 12, 11, 4, 3, 1, 0, 2, 10, 9, 6, 5, 8, 7, 15] },
                              { dst := some 46, op := Op.binOp BinOp.gtr 3 (Operand.tmp 45) (Operand.const (Value.int IntKind.i64 (Int.ofNat 1000000))) 3, guard := some (some 40, false),
                                bef := [17, 16, 14, 13, 12, 11, 4, 3, 1, 0, 2, 10, 9, 6, 5, 8, 7, 15] },
                              { dst := some 47, op := Op.pick (Operand.tmp 40) (Operand.const (Value.bool true)) (Operand.tmp 46), guard := none,
                                bef := [12, 11, 4, 3, 1, 0, 2, 10, 9, 6, 5, 8, 7, 18, 17, 16, 14, 13, 15] }]).seq
                        (IC.cond (Operand.tmp 47) ((IC.ops [{ dst := some 2, op := Op.assign (Operand.const (Value.bool false)), guard := none }]).seq IC.ret) IC.skip))).seq
                  (IC.ops
                    [{ dst := some 26, op := Op.move (Operand.tmp 3), guard := none },
                      { dst := some 27, op := Op.binOp BinOp.add 3 (Operand.tmp 26) (Operand.const (Value.int IntKind.i64 (Int.ofNat 1))) 3, guard := none },
                      { dst := some 3, op := Op.assign (Operand.tmp 27), guard := none }]))).loop)).seq
      ((IC.ops [{ dst := some 2, op := Op.assign (Operand.const (Value.bool true)), guard := none }]).seq IC.ret)))
theorem ic35_eq : Try.f35.body.map comp = some ic35 := by kernel_rfl
theorem ic35_ok : Try.f35.body.map (okC Try.f35.ntmps) = some true := by kernel_rfl
theorem ic35_nm : (Try.f35.name != "runtime.NumGoroutine") = true := by kernel_rfl
@[simp] theorem ic35_n : Try.f35.ntmps = 48 := by kernel_rfl
@[simp] theorem ic35_r : Try.f35.results.toList = [ResultVar.tmp 2] := by kernel_rfl

def ic36 : IC :=
  (IC.ops [{ dst := some 1, op := Op.box 26 (Operand.tmp 0), guard := none }, { dst := some 2, op := Op.assign (Operand.const (Value.bool false)), guard := none }]).seq
  (((IC.ops
            [{ dst := some 4, op := Op.fieldAddr 26 (Operand.tmp 1) 1, guard := none }, { dst := some 5, op := Op.load 22 (Operand.tmp 4), guard := none },
              { dst := some 6, op := Op.call { callee := Callee.builtin Builtin.len, args := { toList := [Operand.tmp 5] }, argTypes := { toList := [22] } }, guard := none },
              { dst := some 7, op := Op.move (Operand.const (Value.int IntKind.i64 (Int.ofNat 0))), guard := none }]).seq
        (IC.block 0
          ((IC.ops [{ dst := some 8, op := Op.binOp BinOp.lss 3 (Operand.tmp 7) (Operand.tmp 6) 3, guard := none }]).seq
              ((IC.cond (Operand.tmp 8) IC.skip (IC.exit 0)).seq
                ((IC.block 1
                      ((IC.ops [{ dst := some 9, op := Op.move (Operand.tmp 7), guard := none }, { dst := some 3, op := Op.assign (Operand.tmp 9), guard := none }]).seq
                        ((IC.ops
                              [{ dst := some 10, op := Op.fieldAddr 26 (Operand.tmp 1) 1, guard := none }, { dst := some 11, op := Op.load 22 (Operand.tmp 10), guard := none },
                                { dst := some 12, op := Op.move (Operand.tmp 3), guard := none }, { dst := some 13, op := Op.indexAddr 22 (Operand.tmp 11) (Operand.tmp 12), guard := none },
                                { dst := some 14, op := Op.load 3 (Operand.tmp 13), guard := none },
                                { dst := some 15,
                                  op :=
                                    Op.call
                                      { callee := Callee.value (Operand.func 37),
                                        args := { toList := [Operand.tmp 14, Operand.const (Value.int IntKind.i64 (Int.ofNat 1)), Operand.const (Value.int IntKind.i64 (Int.ofNat 3))] },
                                        argTypes := { toList := [3, 3, 3] } },
                                  guard := none },
                                { dst := some 16, op := Op.unOp UnOp.not 4 (Operand.tmp 15), guard := none }]).seq
                          (IC.cond (Operand.tmp 16) ((IC.ops [{ dst := some 2, op := Op.assign (Operand.const (Value.bool false)), guard := none }]).seq IC.ret) IC.skip)))).seq
                  (IC.ops
                    [{ dst := some 17, op := Op.binOp BinOp.add 3 (Operand.tmp 7) (Operand.const (Value.int IntKind.i64 (Int.ofNat 1))) 3, guard := none },
                      { dst := some 7, op := Op.move (Operand.tmp 17), guard := none }])))).loop)).seq
    ((IC.ops
          [{ dst := some 18, op := Op.fieldAddr 26 (Operand.tmp 1) 1, guard := none }, { dst := some 19, op := Op.load 22 (Operand.tmp 18), guard := none },
            { dst := some 20, op := Op.call { callee := Callee.builtin Builtin.len, args := { toList := [Operand.tmp 19] }, argTypes := { toList := [22] } }, guard := none },
            { dst := some 21, op := Op.fieldAddr 26 (Operand.tmp 1) 0, guard := none }, { dst := some 22, op := Op.load 22 (Operand.tmp 21), guard := none },
            { dst := some 23, op := Op.call { callee := Callee.builtin Builtin.len, args := { toList := [Operand.tmp 22] }, argTypes := { toList := [22] } }, guard := none },
            { dst := some 24, op := Op.binOp BinOp.eql 3 (Operand.tmp 20) (Operand.tmp 23) 3, guard := none }, { dst := some 2, op := Op.assign (Operand.tmp 24), guard := none }]).seq
      IC.ret))
theorem ic36_eq : Try.f36.body.map comp = some ic36 := by kernel_rfl
theorem ic36_ok : Try.f36.body.map (okC Try.f36.ntmps) = some true := by kernel_rfl
theorem ic36_nm : (Try.f36.name != "runtime.NumGoroutine") = true := by kernel_rfl
@[simp] theorem ic36_n : Try.f36.ntmps = 25 := by kernel_rfl
@[simp] theorem ic36_r : Try.f36.results.toList = [ResultVar.tmp 2] := by kernel_rfl

def ic37 : IC :=
  (IC.ops [{ dst := some 6, op := Op.assign (Operand.const (Value.bool false)), guard := none }]).seq
  ((IC.ops
        [{ dst := some 7, op := Op.move (Operand.tmp 0), guard := none }, { dst := some 8, op := Op.move (Operand.tmp 1), guard := none },
          { dst := some 9, op := Op.binOp BinOp.geq 3 (Operand.tmp 7) (Operand.tmp 8) 3, guard := none }, { dst := some 10, op := Op.move (Operand.tmp 9), guard := none },
          { dst := some 11, op := Op.move (Operand.tmp 0), guard := some (some 10, true) }, { dst := some 12, op := Op.move (Operand.tmp 2), guard := some (some 10, true) },
          { dst := some 13, op := Op.binOp BinOp.leq 3 (Operand.tmp 11) (Operand.tmp 12) 3, guard := some (some 10, true) },
          { dst := some 14, op := Op.pick (Operand.tmp 10) (Operand.tmp 13) (Operand.const (Value.bool false)), guard := none },
          { dst := some 6, op := Op.assign (Operand.tmp 14), guard := none }]).seq
    IC.ret)
theorem ic37_eq : Try.f37.body.map comp = some ic37 := by kernel_rfl
theorem ic37_ok : Try.f37.body.map (okC Try.f37.ntmps) = some true := by kernel_rfl
theorem ic37_nm : (Try.f37.name != "runtime.NumGoroutine") = true := by kernel_rfl
@[simp] theorem ic37_n : Try.f37.ntmps = 15 := by kernel_rfl
@[simp] theorem ic37_r : Try.f37.results.toList = [ResultVar.tmp 6] := by kernel_rfl

def ic38 : IC :=
  (IC.ops [{ dst := some 1, op := Op.box 26 (Operand.tmp 0), guard := none }, { dst := some 2, op := Op.assign (Operand.const (Value.bool false)), guard := none }]).seq
  (((IC.ops [{ dst := some 3, op := Op.assign (Operand.const (Value.int IntKind.i64 (Int.ofNat 1))), guard := none }]).seq
        (IC.block 0
          (((IC.ops
                      [{ dst := some 4, op := Op.move (Operand.tmp 3), guard := none }, { dst := some 5, op := Op.fieldAddr 26 (Operand.tmp 1) 0, guard := none },
                        { dst := some 6, op := Op.load 22 (Operand.tmp 5), guard := none },
                        { dst := some 7, op := Op.call { callee := Callee.builtin Builtin.len, args := { toList := [Operand.tmp 6] }, argTypes := { toList := [22] } }, guard := none },
                        { dst := some 8, op := Op.binOp BinOp.lss 3 (Operand.tmp 4) (Operand.tmp 7) 3, guard := none }]).seq
                  (IC.cond (Operand.tmp 8) IC.skip (IC.exit 0))).seq
              ((IC.block 1
                    ((IC.opsD
                          [{ dst := some 11, op := Op.fieldAddr 26 (Operand.tmp 1) 0, guard := none }, { dst := some 12, op := Op.load 22 (Operand.tmp 11), guard := none, bef := [0] },
                            { dst := some 13, op := Op.move (Operand.tmp 3), guard := none },
                            { dst := some 14, op := Op.indexAddr 22 (Operand.tmp 12) (Operand.tmp 13), guard := none, bef := [1, 0, 2] },
                            { dst := some 15, op := Op.load 3 (Operand.tmp 14), guard := none, bef := [3, 1, 0, 2] }, { dst := some 16, op := Op.fieldAddr 26 (Operand.tmp 1) 0, guard := none },
                            { dst := some 17, op := Op.load 22 (Operand.tmp 16), guard := none, bef := [5] }, { dst := some 18, op := Op.move (Operand.tmp 3), guard := none },
                            { dst := some 19, op := Op.binOp BinOp.sub 3 (Operand.tmp 18) (Operand.const (Value.int IntKind.i64 (Int.ofNat 1))) 3, guard := none, bef := [7] },
                            { dst := some 20, op := Op.indexAddr 22 (Operand.tmp 17) (Operand.tmp 19), guard := none, bef := [6, 5, 8, 7] },
                            { dst := some 21, op := Op.load 3 (Operand.tmp 20), guard := none, bef := [9, 6, 5, 8, 7] },
                            { dst := some 22, op := Op.binOp BinOp.sub 3 (Operand.tmp 15) (Operand.tmp 21) 3, guard := none, bef := [4, 3, 1, 0, 2, 10, 9, 6, 5, 8, 7] },
                            { dst := some 23, op := Op.fieldAddr 26 (Operand.tmp 1) 6, guard := none }, { dst := some 24, op := Op.load 3 (Operand.tmp 23), guard := none, bef := [12] },
                            { dst := some 25, op := Op.binOp BinOp.mul 3 (Operand.const (Value.int IntKind.i64 (Int.ofNat 2))) (Operand.tmp 24) 3, guard := none, bef := [13, 12] },
                            { dst := some 26, op := Op.fieldAddr 26 (Operand.tmp 1) 7, guard := none }, { dst := some 27, op := Op.fieldAddr 24 (Operand.tmp 26) 1, guard := none, bef := [15] },
                            { dst := some 28, op := Op.load 3 (Operand.tmp 27), guard := none, bef := [16, 15] },
                            { dst := some 29, op := Op.binOp BinOp.add 3 (Operand.tmp 25) (Operand.tmp 28) 3, guard := none, bef := [14, 13, 12, 17, 16, 15] },
                            { dst := some 30, op := Op.binOp BinOp.leq 3 (Operand.tmp 22) (Operand.tmp 29) 3, guard := none,
                              bef := [11, 4, 3, 1, 0, 2, 10, 9, 6, 5, 8, 7, 18, 14, 13, 12, 17, 16, 15] }]).seq
                      (IC.cond (Operand.tmp 30) ((IC.ops [{ dst := some 2, op := Op.assign (Operand.const (Value.bool false)), guard := none }]).seq IC.ret) IC.skip))).seq
                (IC.ops
                  [{ dst := some 9, op := Op.move (Operand.tmp 3), guard := none },
                    { dst := some 10, op := Op.binOp BinOp.add 3 (Operand.tmp 9) (Operand.const (Value.int IntKind.i64 (Int.ofNat 1))) 3, guard := none },
                    { dst := some 3, op := Op.assign (Operand.tmp 10), guard := none }]))).loop)).seq
    ((IC.ops [{ dst := some 2, op := Op.assign (Operand.const (Value.bool true)), guard := none }]).seq IC.ret))
theorem ic38_eq : Try.f38.body.map comp = some ic38 := by kernel_rfl
theorem ic38_ok : Try.f38.body.map (okC Try.f38.ntmps) = some true := by kernel_rfl
theorem ic38_nm : (Try.f38.name != "runtime.NumGoroutine") = true := by kernel_rfl
@[simp] theorem ic38_n : Try.f38.ntmps = 31 := by kernel_rfl
@[simp] theorem ic38_r : Try.f38.results.toList = [ResultVar.tmp 2] := by kernel_rfl

def ic39 : IC :=
  (IC.ops
      [{ dst := some 1, op := Op.box 26 (Operand.tmp 0), guard := none }, { dst := some 2, op := Op.assign (Operand.const (Value.string { data := { toList := [] } })), guard := none },
        { dst := some 3, op := Op.assign (Operand.const (Value.bool false)), guard := none }]).seq
  (((IC.ops
            [{ dst := some 6,
                op :=
                  Op.build 62
                    {
                      toList :=
                        [(0,
                            Operand.const
                              (Value.string
                                {
                                  data :=
                                    {
                                      toList :=
                                        [108, 101, 118, 101,
                                          108, 115] } })),
                          (1, Operand.func 42)] },
                guard := none },
              { dst := some 7,
                op :=
                  Op.build 62
                    {
                      toList :=
                        [(0,
                            Operand.const
                              (Value.string
                                {
                                  data :=
                                    {
                                      toList :=
                                        [111, 112, 101,
                                          110] } })),
                          (1, Operand.func 43)] },
                guard := none },
              { dst := some 8,
                op :=
                  Op.build 62
                    {
                      toList :=
                        [(0,
                            Operand.const
                              (Value.string
                                {
                                  data :=
                                    {
                                      toList :=
                                        [115, 112, 101, 101,
                                          100, 115] } })),
                          (1, Operand.func 44)] },
                guard := none },
              { dst := some 9,
                op :=
                  Op.build 62
                    {
                      toList :=
                        [(0,
                            Operand.const
                              (Value.string
                                {
                                  data :=
                                    {
                                      toList :=
                                        [114, 97, 109,
                                          112] } })),
                          (1, Operand.func 45)] },
                guard := none },
              { dst := some 10,
                op :=
                  Op.build 62
                    {
                      toList :=
                        [(0,
                            Operand.const
                              (Value.string
                                {
                                  data :=
                                    {
                                      toList :=
                                        [108, 101, 97,
                                          107] } })),
                          (1, Operand.func 47)] },
                guard := none },
              { dst := some 11,
                op :=
                  Op.build 62
                    {
                      toList :=
                        [(0,
                            Operand.const
                              (Value.string
                                {
                                  data :=
                                    {
                                      toList :=
                                        [115, 116, 97,
                                          114] } })),
                          (1, Operand.func 48)] },
                guard := none },
              { dst := some 12,
                op :=
                  Op.build 62
                    {
                      toList :=
                        [(0,
                            Operand.const
                              (Value.string
                                {
                                  data :=
                                    {
                                      toList :=
                                        [108, 101, 118, 101,
                                          108] } })),
                          (1, Operand.func 49)] },
                guard := none },
              { dst := some 13,
                op :=
                  Op.build 62
                    {
                      toList :=
                        [(0,
                            Operand.const
                              (Value.string
                                {
                                  data :=
                                    {
                                      toList :=
                                        [99, 114, 101, 101,
                                          112] } })),
                          (1, Operand.func 51)] },
                guard := none },
              { dst := some 14,
                op :=
                  Op.build 62
                    {
                      toList :=
                        [(0,
                            Operand.const
                              (Value.string
                                {
                                  data :=
                                    {
                                      toList :=
                                        [118, 97, 110,
                                          101] } })),
                          (1, Operand.func 52)] },
                guard := none },
              { dst := some 15,
                op :=
                  Op.build 62
                    {
                      toList :=
                        [(0,
                            Operand.const
                              (Value.string
                                {
                                  data :=
                                    {
                                      toList :=
                                        [104, 97, 108,
                                          102] } })),
                          (1, Operand.func 53)] },
                guard := none },
              { dst := some 16,
                op :=
                  Op.build 62
                    {
                      toList :=
                        [(0,
                            Operand.const
                              (Value.string
                                {
                                  data :=
                                    {
                                      toList :=
                                        [110, 101, 97,
                                          114] } })),
                          (1, Operand.func 54)] },
                guard := none },
              { dst := some 17,
                op :=
                  Op.build 62
                    {
                      toList :=
                        [(0,
                            Operand.const
                              (Value.string
                                {
                                  data :=
                                    {
                                      toList :=
                                        [99, 111, 110, 116,
                                          97, 99, 116,
                                          115] } })),
                          (1, Operand.func 55)] },
                guard := none },
              { dst := some 18,
                op :=
                  Op.build 62
                    {
                      toList :=
                        [(0,
                            Operand.const
                              (Value.string { data := { toList := [114, 117, 110] } })),
                          (1, Operand.func 56)] },
                guard := none },
              { dst := some 19,
                op :=
                  Op.build 62
                    {
                      toList :=
                        [(0,
                            Operand.const
                              (Value.string
                                {
                                  data :=
                                    {
                                      toList :=
                                        [115, 116, 97, 114,
                                          116, 115] } })),
                          (1, Operand.func 57)] },
                guard := none },
              { dst := some 20,
                op :=
                  Op.build 62
                    {
                      toList :=
                        [(0,
                            Operand.const
                              (Value.string
                                {
                                  data :=
                                    {
                                      toList :=
                                        [103, 97, 116, 101,
                                          115] } })),
                          (1, Operand.func 58)] },
                guard := none },
              { dst := some 21,
                op :=
                  Op.buildSlice 63 15
                    {
                      toList :=
                        [(0, Operand.tmp 6), (1, Operand.tmp 7), (2, Operand.tmp 8), (3, Operand.tmp 9), (4, Operand.tmp 10), (5, Operand.tmp 11), (6, Operand.tmp 12), (7, Operand.tmp 13),
                          (8, Operand.tmp 14), (9, Operand.tmp 15), (10, Operand.tmp 16), (11, Operand.tmp 17), (12, Operand.tmp 18), (13, Operand.tmp 19), (14, Operand.tmp 20)] },
                guard := none },
              { dst := some 22, op := Op.call { callee := Callee.builtin Builtin.len, args := { toList := [Operand.tmp 21] }, argTypes := { toList := [63] } }, guard := none },
              { dst := some 23, op := Op.move (Operand.const (Value.int IntKind.i64 (Int.ofNat 0))), guard := none }]).seq
        (IC.block 0
          ((IC.ops [{ dst := some 24, op := Op.binOp BinOp.lss 3 (Operand.tmp 23) (Operand.tmp 22) 3, guard := none }]).seq
              ((IC.cond (Operand.tmp 24) IC.skip (IC.exit 0)).seq
                ((IC.block 1
                      ((IC.ops
                            [{ dst := some 25, op := Op.indexAddr 63 (Operand.tmp 21) (Operand.tmp 23), guard := none }, { dst := some 26, op := Op.load 62 (Operand.tmp 25), guard := none },
                              { dst := some 5, op := Op.alloc 62, guard := none }, { dst := none, op := Op.store 62 (Operand.tmp 5) (Operand.tmp 26), guard := none }]).seq
                        ((IC.ops
                              [{ dst := some 27, op := Op.fieldAddr 62 (Operand.tmp 5) 1, guard := none }, { dst := some 28, op := Op.load 32 (Operand.tmp 27), guard := none },
                                { dst := some 29, op := Op.load 26 (Operand.tmp 1), guard := none },
                                { dst := some 30, op := Op.call { callee := Callee.value (Operand.tmp 28), args := { toList := [Operand.tmp 29] }, argTypes := { toList := [26] } }, guard := none },
                                { dst := some 31, op := Op.unOp UnOp.not 4 (Operand.tmp 30), guard := none }]).seq
                          (IC.cond (Operand.tmp 31)
                            ((IC.ops
                                  [{ dst := some 32, op := Op.fieldAddr 62 (Operand.tmp 5) 0, guard := none }, { dst := some 33, op := Op.load 9 (Operand.tmp 32), guard := none },
                                    { dst := some 2, op := Op.assign (Operand.tmp 33), guard := none }, { dst := some 3, op := Op.assign (Operand.const (Value.bool true)), guard := none }]).seq
                              IC.ret)
                            IC.skip)))).seq
                  (IC.ops
                    [{ dst := some 34, op := Op.binOp BinOp.add 3 (Operand.tmp 23) (Operand.const (Value.int IntKind.i64 (Int.ofNat 1))) 3, guard := none },
                      { dst := some 23, op := Op.move (Operand.tmp 34), guard := none }])))).loop)).seq
    ((IC.ops
          [{ dst := some 2, op := Op.assign (Operand.const (Value.string { data := { toList := [] } })), guard := none },
            { dst := some 3, op := Op.assign (Operand.const (Value.bool false)), guard := none }]).seq
      IC.ret))
theorem ic39_eq : Try.f39.body.map comp = some ic39 := by kernel_rfl
theorem ic39_ok : Try.f39.body.map (okC Try.f39.ntmps) = some true := by kernel_rfl
theorem ic39_nm : (Try.f39.name != "runtime.NumGoroutine") = true := by kernel_rfl
@[simp] theorem ic39_n : Try.f39.ntmps = 35 := by kernel_rfl
@[simp] theorem ic39_r : Try.f39.results.toList = [ResultVar.tmp 2, ResultVar.tmp 3] := by kernel_rfl

def ic40 : IC :=
  (IC.ops [{ dst := some 4, op := Op.assign (Operand.const (Value.int IntKind.i64 (Int.ofNat 0))), guard := none }]).seq
  ((IC.block 0
        ((IC.ops
              [{ dst := some 6, op := Op.move (Operand.tmp 0), guard := none },
                { dst := some 7, op := Op.binOp BinOp.eql 3 (Operand.tmp 6) (Operand.const (Value.int IntKind.i64 (Int.ofNat 0))) 3, guard := none },
                { dst := some 5, op := Op.assign (Operand.tmp 7), guard := none }]).seq
          (IC.cond (Operand.tmp 5) ((IC.ops [{ dst := some 4, op := Op.assign (Operand.const (Value.int IntKind.i64 (Int.ofNat 0))), guard := none }]).seq IC.ret)
            ((IC.ops
                  [{ dst := some 9, op := Op.move (Operand.tmp 1), guard := none },
                    { dst := some 10, op := Op.binOp BinOp.lss 3 (Operand.tmp 9) (Operand.const (Value.int IntKind.i64 (Int.ofNat 1))) 3, guard := none },
                    { dst := some 8, op := Op.assign (Operand.tmp 10), guard := none }]).seq
              (IC.cond (Operand.tmp 8) ((IC.ops [{ dst := some 4, op := Op.assign (Operand.const (Value.int IntKind.i64 (Int.negSucc 0))), guard := none }]).seq IC.ret) IC.skip))))).seq
    ((IC.ops
          [{ dst := some 11, op := Op.move (Operand.tmp 0), guard := none }, { dst := some 12, op := Op.move (Operand.tmp 0), guard := none },
            { dst := some 13, op := Op.unOp UnOp.neg 3 (Operand.tmp 12), guard := none },
            { dst := some 14, op := Op.call { callee := Callee.builtin Builtin.max, args := { toList := [Operand.tmp 11, Operand.tmp 13] }, argTypes := { toList := [3, 3] } }, guard := none },
            { dst := some 15, op := Op.move (Operand.tmp 1), guard := none },
            { dst := some 16, op := Op.call { callee := Callee.value (Operand.func 32), args := { toList := [Operand.tmp 14, Operand.tmp 15] }, argTypes := { toList := [3, 3] } }, guard := none },
            { dst := some 4, op := Op.assign (Operand.tmp 16), guard := none }]).seq
      IC.ret))
theorem ic40_eq : Try.f40.body.map comp = some ic40 := by kernel_rfl
theorem ic40_ok : Try.f40.body.map (okC Try.f40.ntmps) = some true := by kernel_rfl
theorem ic40_nm : (Try.f40.name != "runtime.NumGoroutine") = true := by kernel_rfl
@[simp] theorem ic40_n : Try.f40.ntmps = 17 := by kernel_rfl
@[simp] theorem ic40_r : Try.f40.results.toList = [ResultVar.tmp 4] := by kernel_rfl

def ic41 : IC :=
  (IC.ops [{ dst := some 4, op := Op.assign (Operand.const (Value.int IntKind.i64 (Int.ofNat 0))), guard := none }]).seq
  (((IC.ops
            [{ dst := some 6, op := Op.move (Operand.tmp 1), guard := none },
              { dst := some 7, op := Op.binOp BinOp.lss 3 (Operand.tmp 6) (Operand.const (Value.int IntKind.i64 (Int.ofNat 1))) 3, guard := none }]).seq
        (IC.cond (Operand.tmp 7) ((IC.ops [{ dst := some 4, op := Op.assign (Operand.const (Value.int IntKind.i64 (Int.ofNat 0))), guard := none }]).seq IC.ret) IC.skip)).seq
    ((IC.ops
          [{ dst := some 8, op := Op.move (Operand.tmp 0), guard := none }, { dst := some 9, op := Op.move (Operand.tmp 1), guard := none },
            { dst := some 10, op := Op.binOp BinOp.quo 3 (Operand.tmp 8) (Operand.tmp 9) 3, guard := none }, { dst := some 5, op := Op.assign (Operand.tmp 10), guard := none }]).seq
      (((IC.ops
                [{ dst := some 11, op := Op.move (Operand.tmp 0), guard := none }, { dst := some 12, op := Op.move (Operand.tmp 1), guard := none },
                  { dst := some 13, op := Op.binOp BinOp.rem 3 (Operand.tmp 11) (Operand.tmp 12) 3, guard := none },
                  { dst := some 14, op := Op.binOp BinOp.lss 3 (Operand.tmp 13) (Operand.const (Value.int IntKind.i64 (Int.ofNat 0))) 3, guard := none }]).seq
            (IC.cond (Operand.tmp 14)
              (IC.ops
                [{ dst := some 15, op := Op.move (Operand.tmp 5), guard := none },
                  { dst := some 16, op := Op.binOp BinOp.sub 3 (Operand.tmp 15) (Operand.const (Value.int IntKind.i64 (Int.ofNat 1))) 3, guard := none },
                  { dst := some 5, op := Op.assign (Operand.tmp 16), guard := none }])
              IC.skip)).seq
        ((IC.ops [{ dst := some 17, op := Op.move (Operand.tmp 5), guard := none }, { dst := some 4, op := Op.assign (Operand.tmp 17), guard := none }]).seq IC.ret))))
theorem ic41_eq : Try.f41.body.map comp = some ic41 := by kernel_rfl
theorem ic41_ok : Try.f41.body.map (okC Try.f41.ntmps) = some true := by kernel_rfl
theorem ic41_nm : (Try.f41.name != "runtime.NumGoroutine") = true := by kernel_rfl
@[simp] theorem ic41_n : Try.f41.ntmps = 18 := by kernel_rfl
@[simp] theorem ic41_r : Try.f41.results.toList = [ResultVar.tmp 4] := by kernel_rfl

def ic42 : IC :=
  (IC.ops [{ dst := some 1, op := Op.box 26 (Operand.tmp 0), guard := none }, { dst := some 2, op := Op.assign (Operand.const (Value.bool false)), guard := none }]).seq
  (((IC.ops
            [{ dst := some 5, op := Op.fieldAddr 26 (Operand.tmp 1) 0, guard := none }, { dst := some 6, op := Op.load 22 (Operand.tmp 5), guard := none },
              { dst := some 7, op := Op.call { callee := Callee.builtin Builtin.len, args := { toList := [Operand.tmp 6] }, argTypes := { toList := [22] } }, guard := none },
              { dst := some 8, op := Op.move (Operand.const (Value.int IntKind.i64 (Int.ofNat 0))), guard := none }]).seq
        (IC.block 0
          ((IC.ops [{ dst := some 9, op := Op.binOp BinOp.lss 3 (Operand.tmp 8) (Operand.tmp 7) 3, guard := none }]).seq
              ((IC.cond (Operand.tmp 9) IC.skip (IC.exit 0)).seq
                ((IC.block 1
                      ((IC.ops
                            [{ dst := some 10, op := Op.move (Operand.tmp 8), guard := none }, { dst := some 11, op := Op.indexAddr 22 (Operand.tmp 6) (Operand.tmp 8), guard := none },
                              { dst := some 12, op := Op.load 3 (Operand.tmp 11), guard := none }, { dst := some 3, op := Op.assign (Operand.tmp 10), guard := none },
                              { dst := some 4, op := Op.assign (Operand.tmp 12), guard := none }]).seq
                        ((IC.ops
                              [{ dst := some 13, op := Op.move (Operand.tmp 3), guard := none },
                                { dst := some 14, op := Op.binOp BinOp.eql 3 (Operand.tmp 13) (Operand.const (Value.int IntKind.i64 (Int.ofNat 0))) 3, guard := none },
                                { dst := some 15, op := Op.move (Operand.tmp 14), guard := none }, { dst := some 16, op := Op.move (Operand.tmp 4), guard := some (some 15, true) },
                                { dst := some 17, op := Op.binOp BinOp.neq 3 (Operand.tmp 16) (Operand.const (Value.int IntKind.i64 (Int.ofNat 0))) 3, guard := some (some 15, true) },
                                { dst := some 18, op := Op.pick (Operand.tmp 15) (Operand.tmp 17) (Operand.const (Value.bool false)), guard := none },
                                { dst := some 19, op := Op.move (Operand.tmp 18), guard := none }, { dst := some 20, op := Op.move (Operand.tmp 3), guard := some (some 19, false) },
                                { dst := some 21, op := Op.binOp BinOp.gtr 3 (Operand.tmp 20) (Operand.const (Value.int IntKind.i64 (Int.ofNat 0))) 3, guard := some (some 19, false) },
                                { dst := some 22, op := Op.move (Operand.tmp 21), guard := some (some 19, false) }, { dst := some 23, op := Op.move (Operand.tmp 4), guard := some (some 22, true) },
                                { dst := some 24, op := Op.fieldAddr 26 (Operand.tmp 1) 0, guard := some (some 22, true) },
                                { dst := some 25, op := Op.load 22 (Operand.tmp 24), guard := some (some 22, true) }, { dst := some 26, op := Op.move (Operand.tmp 3), guard := some (some 22, true) },
                                { dst := some 27, op := Op.binOp BinOp.sub 3 (Operand.tmp 26) (Operand.const (Value.int IntKind.i64 (Int.ofNat 1))) 3, guard := some (some 22, true) },
                                { dst := some 28, op := Op.indexAddr 22 (Operand.tmp 25) (Operand.tmp 27), guard := some (some 22, true) },
                                { dst := some 29, op := Op.load 3 (Operand.tmp 28), guard := some (some 22, true) },
                                { dst := some 30, op := Op.binOp BinOp.leq 3 (Operand.tmp 23) (Operand.tmp 29) 3, guard := some (some 22, true) },
                                { dst := some 31, op := Op.pick (Operand.tmp 22) (Operand.tmp 30) (Operand.const (Value.bool false)), guard := some (some 19, false) },
                                { dst := some 32, op := Op.pick (Operand.tmp 19) (Operand.const (Value.bool true)) (Operand.tmp 31), guard := none },
                                { dst := some 33, op := Op.move (Operand.tmp 32), guard := none }, { dst := some 34, op := Op.move (Operand.tmp 4), guard := some (some 33, false) },
                                { dst := some 35, op := Op.binOp BinOp.gtr 3 (Operand.tmp 34) (Operand.const (Value.int IntKind.i64 (Int.ofNat 1000000))) 3, guard := some (some 33, false) },
                                { dst := some 36, op := Op.pick (Operand.tmp 33) (Operand.const (Value.bool true)) (Operand.tmp 35), guard := none }]).seq
                          (IC.cond (Operand.tmp 36) ((IC.ops [{ dst := some 2, op := Op.assign (Operand.const (Value.bool false)), guard := none }]).seq IC.ret) IC.skip)))).seq
                  (IC.ops
                    [{ dst := some 37, op := Op.binOp BinOp.add 3 (Operand.tmp 8) (Operand.const (Value.int IntKind.i64 (Int.ofNat 1))) 3, guard := none },
                      { dst := some 8, op := Op.move (Operand.tmp 37), guard := none }])))).loop)).seq
    ((IC.ops
          [{ dst := some 38, op := Op.fieldAddr 26 (Operand.tmp 1) 0, guard := none }, { dst := some 39, op := Op.load 22 (Operand.tmp 38), guard := none },
            { dst := some 40, op := Op.call { callee := Callee.builtin Builtin.len, args := { toList := [Operand.tmp 39] }, argTypes := { toList := [22] } }, guard := none },
            { dst := some 41,
              op :=
                Op.call
                  { callee := Callee.value (Operand.func 46),
                    args := { toList := [Operand.tmp 40, Operand.const (Value.int IntKind.i64 (Int.ofNat 2)), Operand.const (Value.int IntKind.i64 (Int.ofNat 16))] },
                    argTypes := { toList := [3, 3, 3] } },
              guard := none },
            { dst := some 2, op := Op.assign (Operand.tmp 41), guard := none }]).seq
      IC.ret))
theorem ic42_eq : Try.f42.body.map comp = some ic42 := by kernel_rfl
theorem ic42_ok : Try.f42.body.map (okC Try.f42.ntmps) = some true := by kernel_rfl
theorem ic42_nm : (Try.f42.name != "runtime.NumGoroutine") = true := by kernel_rfl
@[simp] theorem ic42_n : Try.f42.ntmps = 42 := by kernel_rfl
@[simp] theorem ic42_r : Try.f42.results.toList = [ResultVar.tmp 2] := by kernel_rfl

def ic43 : IC :=
  (IC.ops [{ dst := some 1, op := Op.box 26 (Operand.tmp 0), guard := none }, { dst := some 2, op := Op.assign (Operand.const (Value.bool false)), guard := none }]).seq
  (((IC.ops
            [{ dst := some 5, op := Op.fieldAddr 26 (Operand.tmp 1) 1, guard := none }, { dst := some 6, op := Op.load 22 (Operand.tmp 5), guard := none },
              { dst := some 7, op := Op.call { callee := Callee.builtin Builtin.len, args := { toList := [Operand.tmp 6] }, argTypes := { toList := [22] } }, guard := none },
              { dst := some 8, op := Op.move (Operand.const (Value.int IntKind.i64 (Int.ofNat 0))), guard := none }]).seq
        (IC.block 0
          ((IC.ops [{ dst := some 9, op := Op.binOp BinOp.lss 3 (Operand.tmp 8) (Operand.tmp 7) 3, guard := none }]).seq
              ((IC.cond (Operand.tmp 9) IC.skip (IC.exit 0)).seq
                ((IC.block 1
                      ((IC.ops
                            [{ dst := some 10, op := Op.indexAddr 22 (Operand.tmp 6) (Operand.tmp 8), guard := none }, { dst := some 11, op := Op.load 3 (Operand.tmp 10), guard := none },
                              { dst := some 4, op := Op.assign (Operand.tmp 11), guard := none }]).seq
                        ((IC.ops
                              [{ dst := some 12, op := Op.move (Operand.tmp 4), guard := none },
                                { dst := some 13,
                                  op :=
                                    Op.call
                                      { callee := Callee.value (Operand.func 46),
                                        args := { toList := [Operand.tmp 12, Operand.const (Value.int IntKind.i64 (Int.ofNat 1)), Operand.const (Value.int IntKind.i64 (Int.ofNat 3))] },
                                        argTypes := { toList := [3, 3, 3] } },
                                  guard := none },
                                { dst := some 14, op := Op.unOp UnOp.not 4 (Operand.tmp 13), guard := none }]).seq
                          (IC.cond (Operand.tmp 14) ((IC.ops [{ dst := some 2, op := Op.assign (Operand.const (Value.bool false)), guard := none }]).seq IC.ret) IC.skip)))).seq
                  (IC.ops
                    [{ dst := some 15, op := Op.binOp BinOp.add 3 (Operand.tmp 8) (Operand.const (Value.int IntKind.i64 (Int.ofNat 1))) 3, guard := none },
                      { dst := some 8, op := Op.move (Operand.tmp 15), guard := none }])))).loop)).seq
    ((IC.ops
          [{ dst := some 16, op := Op.fieldAddr 26 (Operand.tmp 1) 1, guard := none }, { dst := some 17, op := Op.load 22 (Operand.tmp 16), guard := none },
            { dst := some 18, op := Op.call { callee := Callee.builtin Builtin.len, args := { toList := [Operand.tmp 17] }, argTypes := { toList := [22] } }, guard := none },
            { dst := some 19, op := Op.fieldAddr 26 (Operand.tmp 1) 0, guard := none }, { dst := some 20, op := Op.load 22 (Operand.tmp 19), guard := none },
            { dst := some 21, op := Op.call { callee := Callee.builtin Builtin.len, args := { toList := [Operand.tmp 20] }, argTypes := { toList := [22] } }, guard := none },
            { dst := some 22, op := Op.binOp BinOp.eql 3 (Operand.tmp 18) (Operand.tmp 21) 3, guard := none }, { dst := some 2, op := Op.assign (Operand.tmp 22), guard := none }]).seq
      IC.ret))
theorem ic43_eq : Try.f43.body.map comp = some ic43 := by kernel_rfl
theorem ic43_ok : Try.f43.body.map (okC Try.f43.ntmps) = some true := by kernel_rfl
theorem ic43_nm : (Try.f43.name != "runtime.NumGoroutine") = true := by kernel_rfl
@[simp] theorem ic43_n : Try.f43.ntmps = 23 := by kernel_rfl
@[simp] theorem ic43_r : Try.f43.results.toList = [ResultVar.tmp 2] := by kernel_rfl

def ic44 : IC :=
  (IC.ops [{ dst := some 1, op := Op.box 26 (Operand.tmp 0), guard := none }, { dst := some 2, op := Op.assign (Operand.const (Value.bool false)), guard := none }]).seq
  ((IC.ops
        [{ dst := some 3, op := Op.fieldAddr 26 (Operand.tmp 1) 8, guard := none }, { dst := some 4, op := Op.fieldAddr 24 (Operand.tmp 3) 0, guard := none },
          { dst := some 5, op := Op.load 3 (Operand.tmp 4), guard := none },
          { dst := some 6, op := Op.binOp BinOp.geq 3 (Operand.tmp 5) (Operand.const (Value.int IntKind.i64 (Int.ofNat 1))) 3, guard := none },
          { dst := some 7, op := Op.move (Operand.tmp 6), guard := none }, { dst := some 8, op := Op.fieldAddr 26 (Operand.tmp 1) 8, guard := some (some 7, true) },
          { dst := some 9, op := Op.fieldAddr 24 (Operand.tmp 8) 0, guard := some (some 7, true) }, { dst := some 10, op := Op.load 3 (Operand.tmp 9), guard := some (some 7, true) },
          { dst := some 11, op := Op.fieldAddr 26 (Operand.tmp 1) 8, guard := some (some 7, true) }, { dst := some 12, op := Op.fieldAddr 24 (Operand.tmp 11) 1, guard := some (some 7, true) },
          { dst := some 13, op := Op.load 3 (Operand.tmp 12), guard := some (some 7, true) },
          { dst := some 14, op := Op.binOp BinOp.leq 3 (Operand.tmp 10) (Operand.tmp 13) 3, guard := some (some 7, true) },
          { dst := some 15, op := Op.pick (Operand.tmp 7) (Operand.tmp 14) (Operand.const (Value.bool false)), guard := none }, { dst := some 16, op := Op.move (Operand.tmp 15), guard := none },
          { dst := some 17, op := Op.fieldAddr 26 (Operand.tmp 1) 8, guard := some (some 16, true) }, { dst := some 18, op := Op.fieldAddr 24 (Operand.tmp 17) 1, guard := some (some 16, true) },
          { dst := some 19, op := Op.load 3 (Operand.tmp 18), guard := some (some 16, true) }, { dst := some 20, op := Op.fieldAddr 26 (Operand.tmp 1) 7, guard := some (some 16, true) },
          { dst := some 21, op := Op.fieldAddr 24 (Operand.tmp 20) 0, guard := some (some 16, true) }, { dst := some 22, op := Op.load 3 (Operand.tmp 21), guard := some (some 16, true) },
          { dst := some 23, op := Op.binOp BinOp.leq 3 (Operand.tmp 19) (Operand.tmp 22) 3, guard := some (some 16, true) },
          { dst := some 24, op := Op.pick (Operand.tmp 16) (Operand.tmp 23) (Operand.const (Value.bool false)), guard := none }, { dst := some 25, op := Op.move (Operand.tmp 24), guard := none },
          { dst := some 26, op := Op.fieldAddr 26 (Operand.tmp 1) 7, guard := some (some 25, true) }, { dst := some 27, op := Op.fieldAddr 24 (Operand.tmp 26) 0, guard := some (some 25, true) },
          { dst := some 28, op := Op.load 3 (Operand.tmp 27), guard := some (some 25, true) }, { dst := some 29, op := Op.fieldAddr 26 (Operand.tmp 1) 7, guard := some (some 25, true) },
          { dst := some 30, op := Op.fieldAddr 24 (Operand.tmp 29) 1, guard := some (some 25, true) }, { dst := some 31, op := Op.load 3 (Operand.tmp 30), guard := some (some 25, true) },
          { dst := some 32, op := Op.binOp BinOp.leq 3 (Operand.tmp 28) (Operand.tmp 31) 3, guard := some (some 25, true) },
          { dst := some 33, op := Op.pick (Operand.tmp 25) (Operand.tmp 32) (Operand.const (Value.bool false)), guard := none }, { dst := some 34, op := Op.move (Operand.tmp 33), guard := none },
          { dst := some 35, op := Op.fieldAddr 26 (Operand.tmp 1) 7, guard := some (some 34, true) }, { dst := some 36, op := Op.fieldAddr 24 (Operand.tmp 35) 1, guard := some (some 34, true) },
          { dst := some 37, op := Op.load 3 (Operand.tmp 36), guard := some (some 34, true) },
          { dst := some 38, op := Op.binOp BinOp.leq 3 (Operand.tmp 37) (Operand.const (Value.int IntKind.i64 (Int.ofNat 1000))) 3, guard := some (some 34, true) },
          { dst := some 39, op := Op.pick (Operand.tmp 34) (Operand.tmp 38) (Operand.const (Value.bool false)), guard := none },
          { dst := some 2, op := Op.assign (Operand.tmp 39), guard := none }]).seq
    IC.ret)
theorem ic44_eq : Try.f44.body.map comp = some ic44 := by kernel_rfl
theorem ic44_ok : Try.f44.body.map (okC Try.f44.ntmps) = some true := by kernel_rfl
theorem ic44_nm : (Try.f44.name != "runtime.NumGoroutine") = true := by kernel_rfl
@[simp] theorem ic44_n : Try.f44.ntmps = 40 := by kernel_rfl
@[simp] theorem ic44_r : Try.f44.results.toList = [ResultVar.tmp 2] := by kernel_rfl

def ic45 : IC :=
  (IC.ops [{ dst := some 1, op := Op.box 26 (Operand.tmp 0), guard := none }, { dst := some 2, op := Op.assign (Operand.const (Value.bool false)), guard := none }]).seq
  ((IC.ops
        [{ dst := some 3, op := Op.fieldAddr 26 (Operand.tmp 1) 10, guard := none }, { dst := some 4, op := Op.load 3 (Operand.tmp 3), guard := none },
          { dst := some 5,
            op :=
              Op.call
                { callee := Callee.value (Operand.func 46),
                  args := { toList := [Operand.tmp 4, Operand.const (Value.int IntKind.i64 (Int.ofNat 1)), Operand.const (Value.int IntKind.i64 (Int.ofNat 1000))] },
                  argTypes := { toList := [3, 3, 3] } },
            guard := none },
          { dst := some 2, op := Op.assign (Operand.tmp 5), guard := none }]).seq
    IC.ret)
theorem ic45_eq : Try.f45.body.map comp = some ic45 := by kernel_rfl
theorem ic45_ok : Try.f45.body.map (okC Try.f45.ntmps) = some true := by kernel_rfl
theorem ic45_nm : (Try.f45.name != "runtime.NumGoroutine") = true := by kernel_rfl
@[simp] theorem ic45_n : Try.f45.ntmps = 6 := by kernel_rfl
@[simp] theorem ic45_r : Try.f45.results.toList = [ResultVar.tmp 2] := by kernel_rfl

def ic46 : IC :=
  (IC.ops [{ dst := some 6, op := Op.assign (Operand.const (Value.bool false)), guard := none }]).seq
  ((IC.ops
        [{ dst := some 7, op := Op.move (Operand.tmp 0), guard := none }, { dst := some 8, op := Op.move (Operand.tmp 1), guard := none },
          { dst := some 9, op := Op.binOp BinOp.geq 3 (Operand.tmp 7) (Operand.tmp 8) 3, guard := none }, { dst := some 10, op := Op.move (Operand.tmp 9), guard := none },
          { dst := some 11, op := Op.move (Operand.tmp 0), guard := some (some 10, true) }, { dst := some 12, op := Op.move (Operand.tmp 2), guard := some (some 10, true) },
          { dst := some 13, op := Op.binOp BinOp.leq 3 (Operand.tmp 11) (Operand.tmp 12) 3, guard := some (some 10, true) },
          { dst := some 14, op := Op.pick (Operand.tmp 10) (Operand.tmp 13) (Operand.const (Value.bool false)), guard := none },
          { dst := some 6, op := Op.assign (Operand.tmp 14), guard := none }]).seq
    IC.ret)
theorem ic46_eq : Try.f46.body.map comp = some ic46 := by kernel_rfl
theorem ic46_ok : Try.f46.body.map (okC Try.f46.ntmps) = some true := by kernel_rfl
theorem ic46_nm : (Try.f46.name != "runtime.NumGoroutine") = true := by kernel_rfl
@[simp] theorem ic46_n : Try.f46.ntmps = 15 := by kernel_rfl
@[simp] theorem ic46_r : Try.f46.results.toList = [ResultVar.tmp 6] := by kernel_rfl

def ic47 : IC :=
  (IC.ops [{ dst := some 1, op := Op.box 26 (Operand.tmp 0), guard := none }, { dst := some 2, op := Op.assign (Operand.const (Value.bool false)), guard := none }]).seq
  ((IC.ops
        [{ dst := some 3, op := Op.fieldAddr 26 (Operand.tmp 1) 9, guard := none }, { dst := some 4, op := Op.load 3 (Operand.tmp 3), guard := none },
          { dst := some 5, op := Op.fieldAddr 26 (Operand.tmp 1) 8, guard := none }, { dst := some 6, op := Op.fieldAddr 24 (Operand.tmp 5) 0, guard := none },
          { dst := some 7, op := Op.load 3 (Operand.tmp 6), guard := none },
          { dst := some 8, op := Op.binOp BinOp.sub 3 (Operand.tmp 7) (Operand.const (Value.int IntKind.i64 (Int.ofNat 1))) 3, guard := none },
          { dst := some 9,
            op :=
              Op.call
                { callee := Callee.value (Operand.func 46), args := { toList := [Operand.tmp 4, Operand.const (Value.int IntKind.i64 (Int.ofNat 0)), Operand.tmp 8] },
                  argTypes := { toList := [3, 3, 3] } },
            guard := none },
          { dst := some 2, op := Op.assign (Operand.tmp 9), guard := none }]).seq
    IC.ret)
theorem ic47_eq : Try.f47.body.map comp = some ic47 := by kernel_rfl
theorem ic47_ok : Try.f47.body.map (okC Try.f47.ntmps) = some true := by kernel_rfl
theorem ic47_nm : (Try.f47.name != "runtime.NumGoroutine") = true := by kernel_rfl
@[simp] theorem ic47_n : Try.f47.ntmps = 10 := by kernel_rfl
@[simp] theorem ic47_r : Try.f47.results.toList = [ResultVar.tmp 2] := by kernel_rfl

def ic48 : IC :=
  (IC.ops [{ dst := some 1, op := Op.box 26 (Operand.tmp 0), guard := none }, { dst := some 2, op := Op.assign (Operand.const (Value.bool false)), guard := none }]).seq
  ((IC.ops
        [{ dst := some 3, op := Op.fieldAddr 26 (Operand.tmp 1) 13, guard := none }, { dst := some 4, op := Op.load 3 (Operand.tmp 3), guard := none },
          { dst := some 5,
            op :=
              Op.call
                { callee := Callee.value (Operand.func 46),
                  args := { toList := [Operand.tmp 4, Operand.const (Value.int IntKind.i64 (Int.ofNat 0)), Operand.const (Value.int IntKind.i64 (Int.ofNat 500))] },
                  argTypes := { toList := [3, 3, 3] } },
            guard := none },
          { dst := some 2, op := Op.assign (Operand.tmp 5), guard := none }]).seq
    IC.ret)
theorem ic48_eq : Try.f48.body.map comp = some ic48 := by kernel_rfl
theorem ic48_ok : Try.f48.body.map (okC Try.f48.ntmps) = some true := by kernel_rfl
theorem ic48_nm : (Try.f48.name != "runtime.NumGoroutine") = true := by kernel_rfl
@[simp] theorem ic48_n : Try.f48.ntmps = 6 := by kernel_rfl
@[simp] theorem ic48_r : Try.f48.results.toList = [ResultVar.tmp 2] := by kernel_rfl

def ic49 : IC :=
  (IC.ops [{ dst := some 1, op := Op.box 26 (Operand.tmp 0), guard := none }, { dst := some 2, op := Op.assign (Operand.const (Value.bool false)), guard := none }]).seq
  ((IC.opsD
        [{ dst := some 3, op := Op.fieldAddr 26 (Operand.tmp 1) 4, guard := none }, { dst := some 4, op := Op.load 3 (Operand.tmp 3), guard := none, bef := [0] },
          { dst := some 5, op := Op.load 26 (Operand.tmp 1), guard := none },
          { dst := some 6, op := Op.call { callee := Callee.value (Operand.func 50), args := { toList := [Operand.tmp 5] }, argTypes := { toList := [26] } }, guard := none, bef := [2] },
          { dst := some 7,
            op :=
              Op.call
                { callee := Callee.value (Operand.func 46), args := { toList := [Operand.tmp 4, Operand.tmp 6, Operand.const (Value.int IntKind.i64 (Int.ofNat 1000000))] },
                  argTypes := { toList := [3, 3, 3] } },
            guard := none, bef := [1, 0, 3, 2] },
          { dst := some 2, op := Op.assign (Operand.tmp 7), guard := none, bef := [4, 1, 0, 3, 2] }]).seq
    IC.ret)
theorem ic49_eq : Try.f49.body.map comp = some ic49 := by kernel_rfl
theorem ic49_ok : Try.f49.body.map (okC Try.f49.ntmps) = some true := by kernel_rfl
theorem ic49_nm : (Try.f49.name != "runtime.NumGoroutine") = true := by kernel_rfl
@[simp] theorem ic49_n : Try.f49.ntmps = 8 := by kernel_rfl
@[simp] theorem ic49_r : Try.f49.results.toList = [ResultVar.tmp 2] := by kernel_rfl

def ic50 : IC :=
  (IC.ops [{ dst := some 1, op := Op.box 26 (Operand.tmp 0), guard := none }, { dst := some 2, op := Op.assign (Operand.const (Value.int IntKind.i64 (Int.ofNat 0))), guard := none }]).seq
  ((IC.opsD
        [{ dst := some 3, op := Op.fieldAddr 26 (Operand.tmp 1) 8, guard := none }, { dst := some 4, op := Op.fieldAddr 24 (Operand.tmp 3) 1, guard := none, bef := [0] },
          { dst := some 5, op := Op.load 3 (Operand.tmp 4), guard := none, bef := [1, 0] }, { dst := some 6, op := Op.fieldAddr 26 (Operand.tmp 1) 8, guard := none },
          { dst := some 7, op := Op.fieldAddr 24 (Operand.tmp 6) 1, guard := none, bef := [3] }, { dst := some 8, op := Op.load 3 (Operand.tmp 7), guard := none, bef := [4, 3] },
          { dst := some 9, op := Op.fieldAddr 26 (Operand.tmp 1) 10, guard := none }, { dst := some 10, op := Op.load 3 (Operand.tmp 9), guard := none, bef := [6] },
          { dst := some 11, op := Op.call { callee := Callee.value (Operand.func 59), args := { toList := [Operand.tmp 8, Operand.tmp 10] }, argTypes := { toList := [3, 3] } }, guard := none,
            bef := [5, 4, 3, 7, 6] },
          { dst := some 12, op := Op.binOp BinOp.add 3 (Operand.tmp 5) (Operand.tmp 11) 3, guard := none, bef := [2, 1, 0, 8, 5, 4, 3, 7, 6] },
          { dst := some 2, op := Op.assign (Operand.tmp 12), guard := none, bef := [9, 2, 1, 0, 8, 5, 4, 3, 7, 6] }]).seq
    IC.ret)
theorem ic50_eq : Try.f50.body.map comp = some ic50 := by kernel_rfl
theorem ic50_ok : Try.f50.body.map (okC Try.f50.ntmps) = some true := by kernel_rfl
theorem ic50_nm : (Try.f50.name != "runtime.NumGoroutine") = true := by kernel_rfl
@[simp] theorem ic50_n : Try.f50.ntmps = 13 := by kernel_rfl
@[simp] theorem ic50_r : Try.f50.results.toList = [ResultVar.tmp 2] := by kernel_rfl

def ic51 : IC :=
  (IC.ops [{ dst := some 1, op := Op.box 26 (Operand.tmp 0), guard := none }, { dst := some 2, op := Op.assign (Operand.const (Value.bool false)), guard := none }]).seq
  ((IC.ops
        [{ dst := some 3, op := Op.fieldAddr 26 (Operand.tmp 1) 5, guard := none }, { dst := some 4, op := Op.load 3 (Operand.tmp 3), guard := none },
          { dst := some 5, op := Op.fieldAddr 26 (Operand.tmp 1) 4, guard := none }, { dst := some 6, op := Op.load 3 (Operand.tmp 5), guard := none },
          { dst := some 7,
            op :=
              Op.call
                { callee := Callee.value (Operand.func 46), args := { toList := [Operand.tmp 4, Operand.tmp 6, Operand.const (Value.int IntKind.i64 (Int.ofNat 1000000))] },
                  argTypes := { toList := [3, 3, 3] } },
            guard := none },
          { dst := some 2, op := Op.assign (Operand.tmp 7), guard := none }]).seq
    IC.ret)
theorem ic51_eq : Try.f51.body.map comp = some ic51 := by kernel_rfl
theorem ic51_ok : Try.f51.body.map (okC Try.f51.ntmps) = some true := by kernel_rfl
theorem ic51_nm : (Try.f51.name != "runtime.NumGoroutine") = true := by kernel_rfl
@[simp] theorem ic51_n : Try.f51.ntmps = 8 := by kernel_rfl
@[simp] theorem ic51_r : Try.f51.results.toList = [ResultVar.tmp 2] := by kernel_rfl

def ic52 : IC :=
  (IC.ops [{ dst := some 1, op := Op.box 26 (Operand.tmp 0), guard := none }, { dst := some 2, op := Op.assign (Operand.const (Value.bool false)), guard := none }]).seq
  ((IC.opsD
        [{ dst := some 3, op := Op.fieldAddr 26 (Operand.tmp 1) 3, guard := none }, { dst := some 4, op := Op.load 3 (Operand.tmp 3), guard := none, bef := [0] },
          { dst := some 5, op := Op.fieldAddr 26 (Operand.tmp 1) 5, guard := none }, { dst := some 6, op := Op.load 3 (Operand.tmp 5), guard := none, bef := [2] },
          { dst := some 7, op := Op.fieldAddr 26 (Operand.tmp 1) 9, guard := none }, { dst := some 8, op := Op.load 3 (Operand.tmp 7), guard := none, bef := [4] },
          { dst := some 9, op := Op.fieldAddr 26 (Operand.tmp 1) 13, guard := none }, { dst := some 10, op := Op.load 3 (Operand.tmp 9), guard := none, bef := [6] },
          { dst := some 11, op := Op.binOp BinOp.add 3 (Operand.tmp 10) (Operand.const (Value.int IntKind.i64 (Int.ofNat 4))) 3, guard := none, bef := [7, 6] },
          { dst := some 12, op := Op.load 26 (Operand.tmp 1), guard := none },
          { dst := some 13, op := Op.call { callee := Callee.value (Operand.func 31), args := { toList := [Operand.tmp 12] }, argTypes := { toList := [26] } }, guard := none, bef := [9] },
          { dst := some 14, op := Op.binOp BinOp.add 3 (Operand.tmp 11) (Operand.tmp 13) 3, guard := none, bef := [8, 7, 6, 10, 9] },
          { dst := some 15, op := Op.binOp BinOp.mul 3 (Operand.tmp 8) (Operand.tmp 14) 3, guard := none, bef := [5, 4, 11, 8, 7, 6, 10, 9] },
          { dst := some 16, op := Op.binOp BinOp.add 3 (Operand.tmp 6) (Operand.tmp 15) 3, guard := none, bef := [3, 2, 12, 5, 4, 11, 8, 7, 6, 10, 9] },
          { dst := some 17,
            op :=
              Op.call
                { callee := Callee.value (Operand.func 46), args := { toList := [Operand.tmp 4, Operand.tmp 16, Operand.const (Value.int IntKind.i64 (Int.ofNat 1000000))] },
                  argTypes := { toList := [3, 3, 3] } },
            guard := none, bef := [1, 0, 13, 3, 2, 12, 5, 4, 11, 8, 7, 6, 10, 9] },
          { dst := some 18, op := Op.move (Operand.tmp 17), guard := none, bef := [14, 1, 0, 13, 3, 2, 12, 5, 4, 11, 8, 7, 6, 10, 9] },
          { dst := some 19, op := Op.fieldAddr 26 (Operand.tmp 1) 3, guard := some (some 18, true), bef := [15, 14, 1, 0, 13, 3, 2, 12, 5, 4, 11, 8, 7, 6, 10, 9] },
          { dst := some 20, op := Op.load 3 (Operand.tmp 19), guard := some (some 18, true), bef := [16, 15, 14, 1, 0, 13, 3, 2, 12, 5, 4, 11, 8, 7, 6, 10, 9] },
          { dst := some 21, op := Op.binOp BinOp.mul 3 (Operand.const (Value.int IntKind.i64 (Int.ofNat 2))) (Operand.tmp 20) 3, guard := some (some 18, true),
            bef := [17, 16, 15, 14, 1, 0, 13, 3, 2, 12, 5, 4, 11, 8, 7, 6, 10, 9] },
          { dst := some 22, op := Op.fieldAddr 26 (Operand.tmp 1) 7, guard := some (some 18, true), bef := [15, 14, 1, 0, 13, 3, 2, 12, 5, 4, 11, 8, 7, 6, 10, 9] },
          { dst := some 23, op := Op.fieldAddr 24 (Operand.tmp 22) 1, guard := some (some 18, true), bef := [19, 15, 14, 1, 0, 13, 3, 2, 12, 5, 4, 11, 8, 7, 6, 10, 9] },
          { dst := some 24, op := Op.load 3 (Operand.tmp 23), guard := some (some 18, true), bef := [20, 19, 15, 14, 1, 0, 13, 3, 2, 12, 5, 4, 11, 8, 7, 6, 10, 9] },
          { dst := some 25, op := Op.binOp BinOp.geq 3 (Operand.tmp 21) (Operand.tmp 24) 3, guard := some (some 18, true),
            bef := [18, 17, 16, 15, 14, 1, 0, 13, 3, 2, 12, 5, 4, 11, 8, 7, 6, 10, 9, 21, 20, 19] },
          { dst := some 26, op := Op.pick (Operand.tmp 18) (Operand.tmp 25) (Operand.const (Value.bool false)), guard := none,
            bef := [15, 14, 1, 0, 13, 3, 2, 12, 5, 4, 11, 8, 7, 6, 10, 9, 22, 18, 17, 16, 21, 20, 19] },
          { dst := some 2, op := Op.assign (Operand.tmp 26), guard := none, bef := [23, 15, 14, 1, 0, 13, 3, 2, 12, 5, 4, 11, 8, 7, 6, 10, 9, 22, 18, 17, 16, 21, 20, 19] }]).seq
    IC.ret)
theorem ic52_eq : Try.f52.body.map comp = some ic52 := by kernel_rfl
theorem ic52_ok : Try.f52.body.map (okC Try.f52.ntmps) = some true := by kernel_rfl
theorem ic52_nm : (Try.f52.name != "runtime.NumGoroutine") = true := by kernel_rfl
@[simp] theorem ic52_n : Try.f52.ntmps = 27 := by kernel_rfl
@[simp] theorem ic52_r : Try.f52.results.toList = [ResultVar.tmp 2] := by kernel_rfl

def ic53 : IC :=
  (IC.ops [{ dst := some 1, op := Op.box 26 (Operand.tmp 0), guard := none }, { dst := some 2, op := Op.assign (Operand.const (Value.bool false)), guard := none }]).seq
  ((IC.opsD
        [{ dst := some 3, op := Op.fieldAddr 26 (Operand.tmp 1) 2, guard := none }, { dst := some 4, op := Op.load 3 (Operand.tmp 3), guard := none, bef := [0] },
          { dst := some 5, op := Op.fieldAddr 26 (Operand.tmp 1) 3, guard := none }, { dst := some 6, op := Op.load 3 (Operand.tmp 5), guard := none, bef := [2] },
          { dst := some 7, op := Op.load 26 (Operand.tmp 1), guard := none },
          { dst := some 8, op := Op.call { callee := Callee.value (Operand.func 50), args := { toList := [Operand.tmp 7] }, argTypes := { toList := [26] } }, guard := none, bef := [4] },
          { dst := some 9, op := Op.binOp BinOp.add 3 (Operand.tmp 6) (Operand.tmp 8) 3, guard := none, bef := [3, 2, 5, 4] },
          { dst := some 10,
            op :=
              Op.call
                { callee := Callee.value (Operand.func 46), args := { toList := [Operand.tmp 4, Operand.tmp 9, Operand.const (Value.int IntKind.i64 (Int.ofNat 1000000))] },
                  argTypes := { toList := [3, 3, 3] } },
            guard := none, bef := [1, 0, 6, 3, 2, 5, 4] },
          { dst := some 2, op := Op.assign (Operand.tmp 10), guard := none, bef := [7, 1, 0, 6, 3, 2, 5, 4] }]).seq
    IC.ret)
theorem ic53_eq : Try.f53.body.map comp = some ic53 := by kernel_rfl
theorem ic53_ok : Try.f53.body.map (okC Try.f53.ntmps) = some true := by kernel_rfl
theorem ic53_nm : (Try.f53.name != "runtime.NumGoroutine") = true := by kernel_rfl
@[simp] theorem ic53_n : Try.f53.ntmps = 11 := by kernel_rfl
@[simp] theorem ic53_r : Try.f53.results.toList = [ResultVar.tmp 2] := by kernel_rfl

def ic54 : IC :=
  (IC.ops [{ dst := some 1, op := Op.box 26 (Operand.tmp 0), guard := none }, { dst := some 2, op := Op.assign (Operand.const (Value.bool false)), guard := none }]).seq
  (((IC.ops [{ dst := some 3, op := Op.assign (Operand.const (Value.int IntKind.i64 (Int.ofNat 1))), guard := none }]).seq
        (IC.block 0
          (((IC.ops
                      [{ dst := some 4, op := Op.move (Operand.tmp 3), guard := none }, { dst := some 5, op := Op.fieldAddr 26 (Operand.tmp 1) 0, guard := none },
                        { dst := some 6, op := Op.load 22 (Operand.tmp 5), guard := none },
                        { dst := some 7, op := Op.call { callee := Callee.builtin Builtin.len, args := { toList := [Operand.tmp 6] }, argTypes := { toList := [22] } }, guard := none },
                        { dst := some 8, op := Op.binOp BinOp.lss 3 (Operand.tmp 4) (Operand.tmp 7) 3, guard := none }]).seq
                  (IC.cond (Operand.tmp 8) IC.skip (IC.exit 0))).seq
              ((IC.block 1
                    ((IC.opsD
                          [{ dst := some 11, op := Op.fieldAddr 26 (Operand.tmp 1) 0, guard := none }, { dst := some 12, op := Op.load 22 (Operand.tmp 11), guard := none, bef := [0] },
                            { dst := some 13, op := Op.move (Operand.tmp 3), guard := none },
                            { dst := some 14, op := Op.indexAddr 22 (Operand.tmp 12) (Operand.tmp 13), guard := none, bef := [1, 0, 2] },
                            { dst := some 15, op := Op.load 3 (Operand.tmp 14), guard := none, bef := [3, 1, 0, 2] }, { dst := some 16, op := Op.fieldAddr 26 (Operand.tmp 1) 0, guard := none },
                            { dst := some 17, op := Op.load 22 (Operand.tmp 16), guard := none, bef := [5] }, { dst := some 18, op := Op.move (Operand.tmp 3), guard := none },
                            { dst := some 19, op := Op.binOp BinOp.sub 3 (Operand.tmp 18) (Operand.const (Value.int IntKind.i64 (Int.ofNat 1))) 3, guard := none, bef := [7] },
                            { dst := some 20, op := Op.indexAddr 22 (Operand.tmp 17) (Operand.tmp 19), guard := none, bef := [6, 5, 8, 7] },
                            { dst := some 21, op := Op.load 3 (Operand.tmp 20), guard := none, bef := [9, 6, 5, 8, 7] },
                            { dst := some 22, op := Op.binOp BinOp.sub 3 (Operand.tmp 15) (Operand.tmp 21) 3, guard := none, bef := [4, 3, 1, 0, 2, 10, 9, 6, 5, 8, 7] },
                            { dst := some 23, op := Op.fieldAddr 26 (Operand.tmp 1) 6, guard := none }, { dst := some 24, op := Op.load 3 (Operand.tmp 23), guard := none, bef := [12] },
                            { dst := some 25, op := Op.binOp BinOp.mul 3 (Operand.const (Value.int IntKind.i64 (Int.ofNat 2))) (Operand.tmp 24) 3, guard := none, bef := [13, 12] },
                            { dst := some 26, op := Op.fieldAddr 26 (Operand.tmp 1) 7, guard := none }, { dst := some 27, op := Op.fieldAddr 24 (Operand.tmp 26) 1, guard := none, bef := [15] },
                            { dst := some 28, op := Op.load 3 (Operand.tmp 27), guard := none, bef := [16, 15] },
                            { dst := some 29, op := Op.binOp BinOp.add 3 (Operand.tmp 25) (Operand.tmp 28) 3, guard := none, bef := [14, 13, 12, 17, 16, 15] },
                            { dst := some 30, op := Op.binOp BinOp.leq 3 (Operand.tmp 22) (Operand.tmp 29) 3, guard := none,
                              bef := [11, 4, 3, 1, 0, 2, 10, 9, 6, 5, 8, 7, 18, 14, 13, 12, 17, 16, 15] }]).seq
                      (IC.cond (Operand.tmp 30) ((IC.ops [{ dst := some 2, op := Op.assign (Operand.const (Value.bool false)), guard := none }]).seq IC.ret) IC.skip))).seq
                (IC.ops
                  [{ dst := some 9, op := Op.move (Operand.tmp 3), guard := none },
                    { dst := some 10, op := Op.binOp BinOp.add 3 (Operand.tmp 9) (Operand.const (Value.int IntKind.i64 (Int.ofNat 1))) 3, guard := none },
                    { dst := some 3, op := Op.assign (Operand.tmp 10), guard := none }]))).loop)).seq
    ((IC.opsD
          [{ dst := some 31, op := Op.fieldAddr 26 (Operand.tmp 1) 6, guard := none }, { dst := some 32, op := Op.load 3 (Operand.tmp 31), guard := none, bef := [0] },
            { dst := some 33, op := Op.fieldAddr 26 (Operand.tmp 1) 2, guard := none }, { dst := some 34, op := Op.load 3 (Operand.tmp 33), guard := none, bef := [2] },
            { dst := some 35, op := Op.load 26 (Operand.tmp 1), guard := none },
            { dst := some 36, op := Op.call { callee := Callee.value (Operand.func 60), args := { toList := [Operand.tmp 35] }, argTypes := { toList := [26] } }, guard := none, bef := [4] },
            { dst := some 37, op := Op.binOp BinOp.add 3 (Operand.tmp 34) (Operand.tmp 36) 3, guard := none, bef := [3, 2, 5, 4] },
            { dst := some 38,
              op :=
                Op.call
                  { callee := Callee.value (Operand.func 46), args := { toList := [Operand.tmp 32, Operand.tmp 37, Operand.const (Value.int IntKind.i64 (Int.ofNat 1000000))] },
                    argTypes := { toList := [3, 3, 3] } },
              guard := none, bef := [1, 0, 6, 3, 2, 5, 4] },
            { dst := some 2, op := Op.assign (Operand.tmp 38), guard := none, bef := [7, 1, 0, 6, 3, 2, 5, 4] }]).seq
      IC.ret))
theorem ic54_eq : Try.f54.body.map comp = some ic54 := by kernel_rfl
theorem ic54_ok : Try.f54.body.map (okC Try.f54.ntmps) = some true := by kernel_rfl
theorem ic54_nm : (Try.f54.name != "runtime.NumGoroutine") = true := by kernel_rfl
@[simp] theorem ic54_n : Try.f54.ntmps = 39 := by kernel_rfl
@[simp] theorem ic54_r : Try.f54.results.toList = [ResultVar.tmp 2] := by kernel_rfl

def ic55 : IC :=
  (IC.ops [{ dst := some 1, op := Op.box 26 (Operand.tmp 0), guard := none }, { dst := some 2, op := Op.assign (Operand.const (Value.bool false)), guard := none }]).seq
  ((IC.ops
        [{ dst := some 3, op := Op.fieldAddr 26 (Operand.tmp 1) 11, guard := none }, { dst := some 4, op := Op.load 3 (Operand.tmp 3), guard := none },
          { dst := some 5,
            op :=
              Op.call
                { callee := Callee.value (Operand.func 46),
                  args := { toList := [Operand.tmp 4, Operand.const (Value.int IntKind.i64 (Int.ofNat 0)), Operand.const (Value.int IntKind.i64 (Int.ofNat 100))] },
                  argTypes := { toList := [3, 3, 3] } },
            guard := none },
          { dst := some 6, op := Op.move (Operand.tmp 5), guard := none }, { dst := some 7, op := Op.fieldAddr 26 (Operand.tmp 1) 12, guard := some (some 6, true) },
          { dst := some 8, op := Op.load 3 (Operand.tmp 7), guard := some (some 6, true) }, { dst := some 9, op := Op.fieldAddr 26 (Operand.tmp 1) 11, guard := some (some 6, true) },
          { dst := some 10, op := Op.load 3 (Operand.tmp 9), guard := some (some 6, true) },
          { dst := some 11, op := Op.binOp BinOp.add 3 (Operand.tmp 10) (Operand.const (Value.int IntKind.i64 (Int.ofNat 1))) 3, guard := some (some 6, true) },
          { dst := some 12,
            op :=
              Op.call
                { callee := Callee.value (Operand.func 46), args := { toList := [Operand.tmp 8, Operand.tmp 11, Operand.const (Value.int IntKind.i64 (Int.ofNat 200))] },
                  argTypes := { toList := [3, 3, 3] } },
            guard := some (some 6, true) },
          { dst := some 13, op := Op.pick (Operand.tmp 6) (Operand.tmp 12) (Operand.const (Value.bool false)), guard := none }, { dst := some 2, op := Op.assign (Operand.tmp 13), guard := none }]).seq
    IC.ret)
theorem ic55_eq : Try.f55.body.map comp = some ic55 := by kernel_rfl
theorem ic55_ok : Try.f55.body.map (okC Try.f55.ntmps) = some true := by kernel_rfl
theorem ic55_nm : (Try.f55.name != "runtime.NumGoroutine") = true := by kernel_rfl
@[simp] theorem ic55_n : Try.f55.ntmps = 14 := by kernel_rfl
@[simp] theorem ic55_r : Try.f55.results.toList = [ResultVar.tmp 2] := by kernel_rfl

def ic56 : IC :=
  (IC.ops [{ dst := some 1, op := Op.box 26 (Operand.tmp 0), guard := none }, { dst := some 2, op := Op.assign (Operand.const (Value.bool false)), guard := none }]).seq
  ((IC.ops
        [{ dst := some 3, op := Op.fieldAddr 26 (Operand.tmp 1) 14, guard := none }, { dst := some 4, op := Op.load 3 (Operand.tmp 3), guard := none },
          { dst := some 5,
            op :=
              Op.call
                { callee := Callee.value (Operand.func 46),
                  args := { toList := [Operand.tmp 4, Operand.const (Value.int IntKind.i64 (Int.ofNat 1)), Operand.const (Value.int IntKind.i64 (Int.ofNat 1000000))] },
                  argTypes := { toList := [3, 3, 3] } },
            guard := none },
          { dst := some 2, op := Op.assign (Operand.tmp 5), guard := none }]).seq
    IC.ret)
theorem ic56_eq : Try.f56.body.map comp = some ic56 := by kernel_rfl
theorem ic56_ok : Try.f56.body.map (okC Try.f56.ntmps) = some true := by kernel_rfl
theorem ic56_nm : (Try.f56.name != "runtime.NumGoroutine") = true := by kernel_rfl
@[simp] theorem ic56_n : Try.f56.ntmps = 6 := by kernel_rfl
@[simp] theorem ic56_r : Try.f56.results.toList = [ResultVar.tmp 2] := by kernel_rfl

def ic57 : IC :=
  (IC.ops [{ dst := some 1, op := Op.box 26 (Operand.tmp 0), guard := none }, { dst := some 2, op := Op.assign (Operand.const (Value.bool false)), guard := none }]).seq
  ((IC.ops
        [{ dst := some 3, op := Op.fieldAddr 26 (Operand.tmp 1) 15, guard := none }, { dst := some 4, op := Op.load 3 (Operand.tmp 3), guard := none },
          { dst := some 5,
            op :=
              Op.call
                { callee := Callee.value (Operand.func 46),
                  args := { toList := [Operand.tmp 4, Operand.const (Value.int IntKind.i64 (Int.ofNat 1)), Operand.const (Value.int IntKind.i64 (Int.ofNat 100))] },
                  argTypes := { toList := [3, 3, 3] } },
            guard := none },
          { dst := some 6, op := Op.move (Operand.tmp 5), guard := none }, { dst := some 7, op := Op.fieldAddr 26 (Operand.tmp 1) 16, guard := some (some 6, true) },
          { dst := some 8, op := Op.load 3 (Operand.tmp 7), guard := some (some 6, true) },
          { dst := some 9,
            op :=
              Op.call
                { callee := Callee.value (Operand.func 46),
                  args := { toList := [Operand.tmp 8, Operand.const (Value.int IntKind.i64 (Int.ofNat 1)), Operand.const (Value.int IntKind.i64 (Int.ofNat 1000000))] },
                  argTypes := { toList := [3, 3, 3] } },
            guard := some (some 6, true) },
          { dst := some 10, op := Op.pick (Operand.tmp 6) (Operand.tmp 9) (Operand.const (Value.bool false)), guard := none }, { dst := some 2, op := Op.assign (Operand.tmp 10), guard := none }]).seq
    IC.ret)
theorem ic57_eq : Try.f57.body.map comp = some ic57 := by kernel_rfl
theorem ic57_ok : Try.f57.body.map (okC Try.f57.ntmps) = some true := by kernel_rfl
theorem ic57_nm : (Try.f57.name != "runtime.NumGoroutine") = true := by kernel_rfl
@[simp] theorem ic57_n : Try.f57.ntmps = 11 := by kernel_rfl
@[simp] theorem ic57_r : Try.f57.results.toList = [ResultVar.tmp 2] := by kernel_rfl

def ic58 : IC :=
  (IC.ops [{ dst := some 1, op := Op.box 26 (Operand.tmp 0), guard := none }, { dst := some 2, op := Op.assign (Operand.const (Value.bool false)), guard := none }]).seq
  ((IC.ops
        [{ dst := some 3, op := Op.fieldAddr 26 (Operand.tmp 1) 17, guard := none }, { dst := some 4, op := Op.load 3 (Operand.tmp 3), guard := none },
          { dst := some 5,
            op :=
              Op.call
                { callee := Callee.value (Operand.func 46),
                  args := { toList := [Operand.tmp 4, Operand.const (Value.int IntKind.i64 (Int.ofNat 1)), Operand.const (Value.int IntKind.i64 (Int.ofNat 1000000))] },
                  argTypes := { toList := [3, 3, 3] } },
            guard := none },
          { dst := some 6, op := Op.move (Operand.tmp 5), guard := none }, { dst := some 7, op := Op.fieldAddr 26 (Operand.tmp 1) 18, guard := some (some 6, true) },
          { dst := some 8, op := Op.load 3 (Operand.tmp 7), guard := some (some 6, true) },
          { dst := some 9,
            op :=
              Op.call
                { callee := Callee.value (Operand.func 46),
                  args := { toList := [Operand.tmp 8, Operand.const (Value.int IntKind.i64 (Int.ofNat 1)), Operand.const (Value.int IntKind.i64 (Int.ofNat 20))] },
                  argTypes := { toList := [3, 3, 3] } },
            guard := some (some 6, true) },
          { dst := some 10, op := Op.pick (Operand.tmp 6) (Operand.tmp 9) (Operand.const (Value.bool false)), guard := none }, { dst := some 2, op := Op.assign (Operand.tmp 10), guard := none }]).seq
    IC.ret)
theorem ic58_eq : Try.f58.body.map comp = some ic58 := by kernel_rfl
theorem ic58_ok : Try.f58.body.map (okC Try.f58.ntmps) = some true := by kernel_rfl
theorem ic58_nm : (Try.f58.name != "runtime.NumGoroutine") = true := by kernel_rfl
@[simp] theorem ic58_n : Try.f58.ntmps = 11 := by kernel_rfl
@[simp] theorem ic58_r : Try.f58.results.toList = [ResultVar.tmp 2] := by kernel_rfl

def ic59 : IC :=
  (IC.ops [{ dst := some 4, op := Op.assign (Operand.const (Value.int IntKind.i64 (Int.ofNat 0))), guard := none }]).seq
  (((IC.ops
            [{ dst := some 7, op := Op.move (Operand.tmp 1), guard := none },
              { dst := some 8, op := Op.binOp BinOp.lss 3 (Operand.tmp 7) (Operand.const (Value.int IntKind.i64 (Int.ofNat 1))) 3, guard := none }]).seq
        (IC.cond (Operand.tmp 8) ((IC.ops [{ dst := some 4, op := Op.assign (Operand.const (Value.int IntKind.i64 (Int.ofNat 0))), guard := none }]).seq IC.ret) IC.skip)).seq
    ((IC.ops
          [{ dst := some 9, op := Op.move (Operand.tmp 0), guard := none }, { dst := some 10, op := Op.move (Operand.tmp 1), guard := none },
            { dst := some 11, op := Op.call { callee := Callee.value (Operand.func 40), args := { toList := [Operand.tmp 9, Operand.tmp 10] }, argTypes := { toList := [3, 3] } }, guard := none },
            { dst := some 5, op := Op.assign (Operand.tmp 11), guard := none }]).seq
      (((IC.ops
                [{ dst := some 12, op := Op.move (Operand.tmp 5), guard := none },
                  { dst := some 13, op := Op.binOp BinOp.eql 3 (Operand.tmp 12) (Operand.const (Value.int IntKind.i64 (Int.ofNat 0))) 3, guard := none }]).seq
            (IC.cond (Operand.tmp 13) ((IC.ops [{ dst := some 4, op := Op.assign (Operand.const (Value.int IntKind.i64 (Int.ofNat 0))), guard := none }]).seq IC.ret) IC.skip)).seq
        ((IC.ops
              [{ dst := some 14, op := Op.move (Operand.tmp 5), guard := none },
                { dst := some 15, op := Op.binOp BinOp.sub 3 (Operand.tmp 14) (Operand.const (Value.int IntKind.i64 (Int.ofNat 1))) 3, guard := none },
                { dst := some 16, op := Op.move (Operand.tmp 0), guard := none }, { dst := some 17, op := Op.move (Operand.tmp 0), guard := none },
                { dst := some 18, op := Op.unOp UnOp.neg 3 (Operand.tmp 17), guard := none },
                { dst := some 19, op := Op.call { callee := Callee.builtin Builtin.max, args := { toList := [Operand.tmp 16, Operand.tmp 18] }, argTypes := { toList := [3, 3] } }, guard := none },
                { dst := some 20, op := Op.binOp BinOp.mul 3 (Operand.tmp 15) (Operand.tmp 19) 3, guard := none }, { dst := some 21, op := Op.move (Operand.tmp 1), guard := none },
                { dst := some 22, op := Op.move (Operand.tmp 5), guard := none },
                { dst := some 23, op := Op.binOp BinOp.sub 3 (Operand.tmp 22) (Operand.const (Value.int IntKind.i64 (Int.ofNat 1))) 3, guard := none },
                { dst := some 24, op := Op.binOp BinOp.mul 3 (Operand.tmp 21) (Operand.tmp 23) 3, guard := none }, { dst := some 25, op := Op.move (Operand.tmp 5), guard := none },
                { dst := some 26, op := Op.binOp BinOp.mul 3 (Operand.tmp 24) (Operand.tmp 25) 3, guard := none },
                { dst := some 27, op := Op.binOp BinOp.quo 3 (Operand.tmp 26) (Operand.const (Value.int IntKind.i64 (Int.ofNat 2))) 3, guard := none },
                { dst := some 28, op := Op.binOp BinOp.sub 3 (Operand.tmp 20) (Operand.tmp 27) 3, guard := none }, { dst := some 6, op := Op.assign (Operand.tmp 28), guard := none }]).seq
          (((IC.ops
                    [{ dst := some 29, op := Op.move (Operand.tmp 0), guard := none },
                      { dst := some 30, op := Op.binOp BinOp.lss 3 (Operand.tmp 29) (Operand.const (Value.int IntKind.i64 (Int.ofNat 0))) 3, guard := none }]).seq
                (IC.cond (Operand.tmp 30)
                  ((IC.ops
                        [{ dst := some 31, op := Op.move (Operand.tmp 6), guard := none }, { dst := some 32, op := Op.unOp UnOp.neg 3 (Operand.tmp 31), guard := none },
                          { dst := some 4, op := Op.assign (Operand.tmp 32), guard := none }]).seq
                    IC.ret)
                  IC.skip)).seq
            ((IC.ops [{ dst := some 33, op := Op.move (Operand.tmp 6), guard := none }, { dst := some 4, op := Op.assign (Operand.tmp 33), guard := none }]).seq IC.ret))))))
theorem ic59_eq : Try.f59.body.map comp = some ic59 := by kernel_rfl
theorem ic59_ok : Try.f59.body.map (okC Try.f59.ntmps) = some true := by kernel_rfl
theorem ic59_nm : (Try.f59.name != "runtime.NumGoroutine") = true := by kernel_rfl
@[simp] theorem ic59_n : Try.f59.ntmps = 34 := by kernel_rfl
@[simp] theorem ic59_r : Try.f59.results.toList = [ResultVar.tmp 4] := by kernel_rfl

def ic60 : IC :=
  (IC.ops [{ dst := some 1, op := Op.box 26 (Operand.tmp 0), guard := none }, { dst := some 2, op := Op.assign (Operand.const (Value.int IntKind.i64 (Int.ofNat 0))), guard := none }]).seq
  ((IC.opsD
        [{ dst := some 3, op := Op.fieldAddr 26 (Operand.tmp 1) 7, guard := none }, { dst := some 4, op := Op.fieldAddr 24 (Operand.tmp 3) 1, guard := none, bef := [0] },
          { dst := some 5, op := Op.load 3 (Operand.tmp 4), guard := none, bef := [1, 0] }, { dst := some 6, op := Op.fieldAddr 26 (Operand.tmp 1) 7, guard := none },
          { dst := some 7, op := Op.fieldAddr 24 (Operand.tmp 6) 1, guard := none, bef := [3] }, { dst := some 8, op := Op.load 3 (Operand.tmp 7), guard := none, bef := [4, 3] },
          { dst := some 9, op := Op.fieldAddr 26 (Operand.tmp 1) 10, guard := none }, { dst := some 10, op := Op.load 3 (Operand.tmp 9), guard := none, bef := [6] },
          { dst := some 11, op := Op.call { callee := Callee.value (Operand.func 59), args := { toList := [Operand.tmp 8, Operand.tmp 10] }, argTypes := { toList := [3, 3] } }, guard := none,
            bef := [5, 4, 3, 7, 6] },
          { dst := some 12, op := Op.binOp BinOp.add 3 (Operand.tmp 5) (Operand.tmp 11) 3, guard := none, bef := [2, 1, 0, 8, 5, 4, 3, 7, 6] },
          { dst := some 2, op := Op.assign (Operand.tmp 12), guard := none, bef := [9, 2, 1, 0, 8, 5, 4, 3, 7, 6] }]).seq
    IC.ret)
theorem ic60_eq : Try.f60.body.map comp = some ic60 := by kernel_rfl
theorem ic60_ok : Try.f60.body.map (okC Try.f60.ntmps) = some true := by kernel_rfl
theorem ic60_nm : (Try.f60.name != "runtime.NumGoroutine") = true := by kernel_rfl
@[simp] theorem ic60_n : Try.f60.ntmps = 13 := by kernel_rfl
@[simp] theorem ic60_r : Try.f60.results.toList = [ResultVar.tmp 2] := by kernel_rfl


end Go.Proofs.Ytmjhpniegjiocaa
