/- Contracts of functions of the seat's program, and what follows of them: I2. Conditions are in each statement. -/
import Derived.Test.YtnoigkdecjeilaaDoorRows
import Derived.Test.YtnoigkdecjeilaaDoorV3
set_option linter.unusedSimpArgs false
set_option linter.unusedVariables false
namespace Go.Proofs.YtnoigkdecjeilaaDoor
open Go Go.Proofs Go.Vm

def ic46 : IC :=
  (IC.ops
      [{ dst := some 17, op := Op.move (Operand.tmp 0), guard := none },
        { dst := some 18, op := Op.call { callee := Callee.builtin Builtin.len, args := { toList := [Operand.tmp 17] }, argTypes := { toList := [107] } }, guard := none },
        { dst := some 4, op := Op.assign (Operand.tmp 18), guard := none }]).seq
  ((IC.block 0
        (((IC.ops
                    [{ dst := some 19, op := Op.move (Operand.tmp 4), guard := none },
                      { dst := some 20, op := Op.binOp BinOp.geq 3 (Operand.tmp 19) (Operand.const (Value.int IntKind.i64 (Int.ofNat 8))) 3, guard := none }]).seq
                (IC.cond (Operand.tmp 20) IC.skip (IC.exit 0))).seq
            (IC.block 1
              ((IC.ops
                    [{ dst := some 21, op := Op.move (Operand.tmp 1), guard := none },
                      { dst := some 22, op := Op.binOp BinOp.rem 104 (Operand.tmp 21) (Operand.const (Value.int IntKind.u64 (Int.ofNat 100000000))) 104, guard := none },
                      { dst := some 23, op := Op.convert 104 113 (Operand.tmp 22), guard := none }, { dst := some 5, op := Op.assign (Operand.tmp 23), guard := none }]).seq
                ((IC.ops
                      [{ dst := some 24, op := Op.move (Operand.tmp 1), guard := none },
                        { dst := some 25, op := Op.binOp BinOp.quo 104 (Operand.tmp 24) (Operand.const (Value.int IntKind.u64 (Int.ofNat 100000000))) 104, guard := none },
                        { dst := some 1, op := Op.assign (Operand.tmp 25), guard := none }]).seq
                  ((IC.ops
                        [{ dst := some 26, op := Op.move (Operand.tmp 5), guard := none },
                          { dst := some 27, op := Op.binOp BinOp.quo 113 (Operand.tmp 26) (Operand.const (Value.int IntKind.u32 (Int.ofNat 10000))) 113, guard := none },
                          { dst := some 28, op := Op.move (Operand.tmp 5), guard := none },
                          { dst := some 29, op := Op.binOp BinOp.rem 113 (Operand.tmp 28) (Operand.const (Value.int IntKind.u32 (Int.ofNat 10000))) 113, guard := none },
                          { dst := some 6, op := Op.assign (Operand.tmp 27), guard := none }, { dst := some 7, op := Op.assign (Operand.tmp 29), guard := none }]).seq
                    ((IC.ops
                          [{ dst := some 30, op := Op.move (Operand.tmp 7), guard := none },
                            { dst := some 31, op := Op.binOp BinOp.quo 113 (Operand.tmp 30) (Operand.const (Value.int IntKind.u32 (Int.ofNat 100))) 113, guard := none },
                            { dst := some 32, op := Op.binOp BinOp.mul 113 (Operand.tmp 31) (Operand.const (Value.int IntKind.u32 (Int.ofNat 2))) 113, guard := none },
                            { dst := some 33, op := Op.move (Operand.tmp 7), guard := none },
                            { dst := some 34, op := Op.binOp BinOp.rem 113 (Operand.tmp 33) (Operand.const (Value.int IntKind.u32 (Int.ofNat 100))) 113, guard := none },
                            { dst := some 35, op := Op.binOp BinOp.mul 113 (Operand.tmp 34) (Operand.const (Value.int IntKind.u32 (Int.ofNat 2))) 113, guard := none },
                            { dst := some 8, op := Op.assign (Operand.tmp 32), guard := none }, { dst := some 9, op := Op.assign (Operand.tmp 35), guard := none }]).seq
                      ((IC.ops
                            [{ dst := some 36, op := Op.move (Operand.tmp 6), guard := none },
                              { dst := some 37, op := Op.binOp BinOp.quo 113 (Operand.tmp 36) (Operand.const (Value.int IntKind.u32 (Int.ofNat 100))) 113, guard := none },
                              { dst := some 38, op := Op.binOp BinOp.mul 113 (Operand.tmp 37) (Operand.const (Value.int IntKind.u32 (Int.ofNat 2))) 113, guard := none },
                              { dst := some 39, op := Op.move (Operand.tmp 6), guard := none },
                              { dst := some 40, op := Op.binOp BinOp.rem 113 (Operand.tmp 39) (Operand.const (Value.int IntKind.u32 (Int.ofNat 100))) 113, guard := none },
                              { dst := some 41, op := Op.binOp BinOp.mul 113 (Operand.tmp 40) (Operand.const (Value.int IntKind.u32 (Int.ofNat 2))) 113, guard := none },
                              { dst := some 10, op := Op.assign (Operand.tmp 38), guard := none }, { dst := some 11, op := Op.assign (Operand.tmp 41), guard := none }]).seq
                        ((IC.opsD
                              [{ dst := some 42, op := Op.move (Operand.tmp 0), guard := none }, { dst := some 43, op := Op.move (Operand.tmp 4), guard := none },
                                { dst := some 44, op := Op.binOp BinOp.sub 3 (Operand.tmp 43) (Operand.const (Value.int IntKind.i64 (Int.ofNat 1))) 3, guard := none, bef := [1] },
                                { dst := some 45, op := Op.move (Operand.tmp 0), guard := none }, { dst := some 46, op := Op.move (Operand.tmp 4), guard := none },
                                { dst := some 47, op := Op.binOp BinOp.sub 3 (Operand.tmp 46) (Operand.const (Value.int IntKind.i64 (Int.ofNat 2))) 3, guard := none, bef := [4] },
                                { dst := some 48, op := Op.move (Operand.tmp 9), guard := none },
                                { dst := some 49, op := Op.binOp BinOp.add 113 (Operand.tmp 48) (Operand.const (Value.int IntKind.u32 (Int.ofNat 1))) 113, guard := none, bef := [6] },
                                { dst := some 50,
                                  op :=
                                    Op.index 9
                                      (Operand.const
                                        (Value.string
                                          {
                                            data :=
                                              {
                                                toList :=
                                                  [48, 48, 48,
                                                    49, 48, 50,
                                                    48, 51, 48,
                                                    52, 48, 53,
                                                    48, 54, 48,
                                                    55, 48, 56,
                                                    48, 57, 49,
                                                    48, 49, 49,
                                                    49, 50, 49,
                                                    51, 49, 52,
                                                    49, 53, 49,
                                                    54, 49, 55,
                                                    49, 56, 49,
                                                    57, 50, 48,
                                                    50, 49, 50,
                                                    50, 50, 51,
                                                    50, 52, 50,
                                                    53, 50, 54,
                                                    50, 55, 50,
                                                    56, 50, 57,
                                                    51, 48, 51,
                                                    49, 51, 50,
                                                    51, 51, 51,
                                                    52, 51, 53,
                                                    51, 54, 51,
                                                    55, 51, 56,
                                                    51, 57, 52,
                                                    48, 52, 49,
                                                    52, 50, 52,
                                                    51, 52, 52,
                                                    52, 53, 52,
                                                    54, 52, 55,
                                                    52, 56, 52,
                                                    57, 53, 48,
                                                    53, 49, 53,
                                                    50, 53, 51,
                                                    53, 52, 53,
                                                    53, 53, 54,
                                                    53, 55, 53,
                                                    56, 53, 57,
                                                    54, 48, 54,
                                                    49, 54, 50,
                                                    54, 51, 54,
                                                    52, 54, 53,
                                                    54, 54, 54,
                                                    55, 54, 56,
                                                    54, 57, 55,
                                                    48, 55, 49,
                                                    55, 50, 55,
                                                    51, 55, 52,
                                                    55, 53, 55,
                                                    54, 55, 55,
                                                    55, 56, 55,
                                                    57, 56, 48,
                                                    56, 49, 56,
                                                    50, 56, 51,
                                                    56, 52, 56,
                                                    53, 56, 54,
                                                    56, 55, 56,
                                                    56, 56, 57,
                                                    57, 48, 57,
                                                    49, 57, 50,
                                                    57, 51, 57,
                                                    52, 57, 53,
                                                    57, 54, 57,
                                                    55, 57, 56,
                                                    57, 57] } }))
                                      (Operand.tmp 49),
                                  guard := none, bef := [7, 6] },
                                { dst := some 51, op := Op.move (Operand.tmp 9), guard := none },
                                { dst := some 52,
                                  op :=
                                    Op.index 9
                                      (Operand.const
                                        (Value.string
                                          {
                                            data :=
                                              {
                                                toList :=
                                                  [48, 48, 48,
                                                    49, 48, 50,
                                                    48, 51, 48,
                                                    52, 48, 53,
                                                    48, 54, 48,
                                                    55, 48, 56,
                                                    48, 57, 49,
                                                    48, 49, 49,
                                                    49, 50, 49,
                                                    51, 49, 52,
                                                    49, 53, 49,
                                                    54, 49, 55,
                                                    49, 56, 49,
                                                    57, 50, 48,
                                                    50, 49, 50,
                                                    50, 50, 51,
                                                    50, 52, 50,
                                                    53, 50, 54,
                                                    50, 55, 50,
                                                    56, 50, 57,
                                                    51, 48, 51,
                                                    49, 51, 50,
                                                    51, 51, 51,
                                                    52, 51, 53,
                                                    51, 54, 51,
                                                    55, 51, 56,
                                                    51, 57, 52,
                                                    48, 52, 49,
                                                    52, 50, 52,
                                                    51, 52, 52,
                                                    52, 53, 52,
                                                    54, 52, 55,
                                                    52, 56, 52,
                                                    57, 53, 48,
                                                    53, 49, 53,
                                                    50, 53, 51,
                                                    53, 52, 53,
                                                    53, 53, 54,
                                                    53, 55, 53,
                                                    56, 53, 57,
                                                    54, 48, 54,
                                                    49, 54, 50,
                                                    54, 51, 54,
                                                    52, 54, 53,
                                                    54, 54, 54,
                                                    55, 54, 56,
                                                    54, 57, 55,
                                                    48, 55, 49,
                                                    55, 50, 55,
                                                    51, 55, 52,
                                                    55, 53, 55,
                                                    54, 55, 55,
                                                    55, 56, 55,
                                                    57, 56, 48,
                                                    56, 49, 56,
                                                    50, 56, 51,
                                                    56, 52, 56,
                                                    53, 56, 54,
                                                    56, 55, 56,
                                                    56, 56, 57,
                                                    57, 48, 57,
                                                    49, 57, 50,
                                                    57, 51, 57,
                                                    52, 57, 53,
                                                    57, 54, 57,
                                                    55, 57, 56,
                                                    57, 57] } }))
                                      (Operand.tmp 51),
                                  guard := none, bef := [9] },
                                { dst := some 53, op := Op.indexAddr 107 (Operand.tmp 42) (Operand.tmp 44), guard := none, bef := [0, 2, 1, 6, 7, 8] },
                                { dst := none, op := Op.store 5 (Operand.tmp 53) (Operand.tmp 50), guard := none, bef := [11, 0, 2, 1, 6, 7, 8] },
                                { dst := some 54, op := Op.indexAddr 107 (Operand.tmp 45) (Operand.tmp 47), guard := none, bef := [3, 5, 4, 0, 1, 2, 6, 7, 8, 9, 10, 11, 12] },
                                { dst := none, op := Op.store 5 (Operand.tmp 54) (Operand.tmp 52), guard := none, bef := [13, 3, 5, 4, 0, 1, 2, 6, 7, 8, 9, 10, 11, 12] }]).seq
                          ((IC.opsD
                                [{ dst := some 55, op := Op.move (Operand.tmp 0), guard := none }, { dst := some 56, op := Op.move (Operand.tmp 4), guard := none },
                                  { dst := some 57, op := Op.binOp BinOp.sub 3 (Operand.tmp 56) (Operand.const (Value.int IntKind.i64 (Int.ofNat 3))) 3, guard := none, bef := [1] },
                                  { dst := some 58, op := Op.move (Operand.tmp 0), guard := none }, { dst := some 59, op := Op.move (Operand.tmp 4), guard := none },
                                  { dst := some 60, op := Op.binOp BinOp.sub 3 (Operand.tmp 59) (Operand.const (Value.int IntKind.i64 (Int.ofNat 4))) 3, guard := none, bef := [4] },
                                  { dst := some 61, op := Op.move (Operand.tmp 8), guard := none },
                                  { dst := some 62, op := Op.binOp BinOp.add 113 (Operand.tmp 61) (Operand.const (Value.int IntKind.u32 (Int.ofNat 1))) 113, guard := none, bef := [6] },
                                  { dst := some 63,
                                    op :=
                                      Op.index 9
                                        (Operand.const
                                          (Value.string
                                            {
                                              data :=
                                                {
                                                  toList :=
                                                    [48, 48, 48,
                                                      49, 48, 50,
                                                      48, 51, 48,
                                                      52, 48, 53,
                                                      48, 54, 48,
                                                      55, 48, 56,
                                                      48, 57, 49,
                                                      48, 49, 49,
                                                      49, 50, 49,
                                                      51, 49, 52,
                                                      49, 53, 49,
                                                      54, 49, 55,
                                                      49, 56, 49,
                                                      57, 50, 48,
                                                      50, 49, 50,
                                                      50, 50, 51,
                                                      50, 52, 50,
                                                      53, 50, 54,
                                                      50, 55, 50,
                                                      56, 50, 57,
                                                      51, 48, 51,
                                                      49, 51, 50,
                                                      51, 51, 51,
                                                      52, 51, 53,
                                                      51, 54, 51,
                                                      55, 51, 56,
                                                      51, 57, 52,
                                                      48, 52, 49,
                                                      52, 50, 52,
                                                      51, 52, 52,
                                                      52, 53, 52,
                                                      54, 52, 55,
                                                      52, 56, 52,
                                                      57, 53, 48,
                                                      53, 49, 53,
                                                      50, 53, 51,
                                                      53, 52, 53,
                                                      53, 53, 54,
                                                      53, 55, 53,
                                                      56, 53, 57,
                                                      54, 48, 54,
                                                      49, 54, 50,
                                                      54, 51, 54,
                                                      52, 54, 53,
                                                      54, 54, 54,
                                                      55, 54, 56,
                                                      54, 57, 55,
                                                      48, 55, 49,
                                                      55, 50, 55,
                                                      51, 55, 52,
                                                      55, 53, 55,
                                                      54, 55, 55,
                                                      55, 56, 55,
                                                      57, 56, 48,
                                                      56, 49, 56,
                                                      50, 56, 51,
                                                      56, 52, 56,
                                                      53, 56, 54,
                                                      56, 55, 56,
                                                      56, 56, 57,
                                                      57, 48, 57,
                                                      49, 57, 50,
                                                      57, 51, 57,
                                                      52, 57, 53,
                                                      57, 54, 57,
                                                      55, 57, 56,
                                                      57, 57] } }))
                                        (Operand.tmp 62),
                                    guard := none, bef := [7, 6] },
                                  { dst := some 64, op := Op.move (Operand.tmp 8), guard := none },
                                  { dst := some 65,
                                    op :=
                                      Op.index 9
                                        (Operand.const
                                          (Value.string
                                            {
                                              data :=
                                                {
                                                  toList :=
                                                    [48, 48, 48,
                                                      49, 48, 50,
                                                      48, 51, 48,
                                                      52, 48, 53,
                                                      48, 54, 48,
                                                      55, 48, 56,
                                                      48, 57, 49,
                                                      48, 49, 49,
                                                      49, 50, 49,
                                                      51, 49, 52,
                                                      49, 53, 49,
                                                      54, 49, 55,
                                                      49, 56, 49,
                                                      57, 50, 48,
                                                      50, 49, 50,
                                                      50, 50, 51,
                                                      50, 52, 50,
                                                      53, 50, 54,
                                                      50, 55, 50,
                                                      56, 50, 57,
                                                      51, 48, 51,
                                                      49, 51, 50,
                                                      51, 51, 51,
                                                      52, 51, 53,
                                                      51, 54, 51,
                                                      55, 51, 56,
                                                      51, 57, 52,
                                                      48, 52, 49,
                                                      52, 50, 52,
                                                      51, 52, 52,
                                                      52, 53, 52,
                                                      54, 52, 55,
                                                      52, 56, 52,
                                                      57, 53, 48,
                                                      53, 49, 53,
                                                      50, 53, 51,
                                                      53, 52, 53,
                                                      53, 53, 54,
                                                      53, 55, 53,
                                                      56, 53, 57,
                                                      54, 48, 54,
                                                      49, 54, 50,
                                                      54, 51, 54,
                                                      52, 54, 53,
                                                      54, 54, 54,
                                                      55, 54, 56,
                                                      54, 57, 55,
                                                      48, 55, 49,
                                                      55, 50, 55,
                                                      51, 55, 52,
                                                      55, 53, 55,
                                                      54, 55, 55,
                                                      55, 56, 55,
                                                      57, 56, 48,
                                                      56, 49, 56,
                                                      50, 56, 51,
                                                      56, 52, 56,
                                                      53, 56, 54,
                                                      56, 55, 56,
                                                      56, 56, 57,
                                                      57, 48, 57,
                                                      49, 57, 50,
                                                      57, 51, 57,
                                                      52, 57, 53,
                                                      57, 54, 57,
                                                      55, 57, 56,
                                                      57, 57] } }))
                                        (Operand.tmp 64),
                                    guard := none, bef := [9] },
                                  { dst := some 66, op := Op.indexAddr 107 (Operand.tmp 55) (Operand.tmp 57), guard := none, bef := [0, 2, 1, 6, 7, 8] },
                                  { dst := none, op := Op.store 5 (Operand.tmp 66) (Operand.tmp 63), guard := none, bef := [11, 0, 2, 1, 6, 7, 8] },
                                  { dst := some 67, op := Op.indexAddr 107 (Operand.tmp 58) (Operand.tmp 60), guard := none, bef := [3, 5, 4, 0, 1, 2, 6, 7, 8, 9, 10, 11, 12] },
                                  { dst := none, op := Op.store 5 (Operand.tmp 67) (Operand.tmp 65), guard := none, bef := [13, 3, 5, 4, 0, 1, 2, 6, 7, 8, 9, 10, 11, 12] }]).seq
                            ((IC.opsD
                                  [{ dst := some 68, op := Op.move (Operand.tmp 0), guard := none }, { dst := some 69, op := Op.move (Operand.tmp 4), guard := none },
                                    { dst := some 70, op := Op.binOp BinOp.sub 3 (Operand.tmp 69) (Operand.const (Value.int IntKind.i64 (Int.ofNat 5))) 3, guard := none, bef := [1] },
                                    { dst := some 71, op := Op.move (Operand.tmp 0), guard := none }, { dst := some 72, op := Op.move (Operand.tmp 4), guard := none },
                                    { dst := some 73, op := Op.binOp BinOp.sub 3 (Operand.tmp 72) (Operand.const (Value.int IntKind.i64 (Int.ofNat 6))) 3, guard := none, bef := [4] },
                                    { dst := some 74, op := Op.move (Operand.tmp 11), guard := none },
                                    { dst := some 75, op := Op.binOp BinOp.add 113 (Operand.tmp 74) (Operand.const (Value.int IntKind.u32 (Int.ofNat 1))) 113, guard := none, bef := [6] },
                                    { dst := some 76,
                                      op :=
                                        Op.index 9
                                          (Operand.const
                                            (Value.string
                                              {
                                                data :=
                                                  {
                                                    toList :=
                                                      [48, 48, 48,
                                                        49, 48, 50,
                                                        48, 51, 48,
                                                        52, 48, 53,
                                                        48, 54, 48,
                                                        55, 48, 56,
                                                        48, 57, 49,
                                                        48, 49, 49,
                                                        49, 50, 49,
                                                        51, 49, 52,
                                                        49, 53, 49,
                                                        54, 49, 55,
                                                        49, 56, 49,
                                                        57, 50, 48,
                                                        50, 49, 50,
                                                        50, 50, 51,
                                                        50, 52, 50,
                                                        53, 50, 54,
                                                        50, 55, 50,
                                                        56, 50, 57,
                                                        51, 48, 51,
                                                        49, 51, 50,
                                                        51, 51, 51,
                                                        52, 51, 53,
                                                        51, 54, 51,
                                                        55, 51, 56,
                                                        51, 57, 52,
                                                        48, 52, 49,
                                                        52, 50, 52,
                                                        51, 52, 52,
                                                        52, 53, 52,
                                                        54, 52, 55,
                                                        52, 56, 52,
                                                        57, 53, 48,
                                                        53, 49, 53,
                                                        50, 53, 51,
                                                        53, 52, 53,
                                                        53, 53, 54,
                                                        53, 55, 53,
                                                        56, 53, 57,
                                                        54, 48, 54,
                                                        49, 54, 50,
                                                        54, 51, 54,
                                                        52, 54, 53,
                                                        54, 54, 54,
                                                        55, 54, 56,
                                                        54, 57, 55,
                                                        48, 55, 49,
                                                        55, 50, 55,
                                                        51, 55, 52,
                                                        55, 53, 55,
                                                        54, 55, 55,
                                                        55, 56, 55,
                                                        57, 56, 48,
                                                        56, 49, 56,
                                                        50, 56, 51,
                                                        56, 52, 56,
                                                        53, 56, 54,
                                                        56, 55, 56,
                                                        56, 56, 57,
                                                        57, 48, 57,
                                                        49, 57, 50,
                                                        57, 51, 57,
                                                        52, 57, 53,
                                                        57, 54, 57,
                                                        55, 57, 56,
                                                        57, 57] } }))
                                          (Operand.tmp 75),
                                      guard := none, bef := [7, 6] },
                                    { dst := some 77, op := Op.move (Operand.tmp 11), guard := none },
                                    { dst := some 78,
                                      op :=
                                        Op.index 9
                                          (Operand.const
                                            (Value.string
                                              {
                                                data :=
                                                  {
                                                    toList :=
                                                      [48, 48, 48,
                                                        49, 48, 50,
                                                        48, 51, 48,
                                                        52, 48, 53,
                                                        48, 54, 48,
                                                        55, 48, 56,
                                                        48, 57, 49,
                                                        48, 49, 49,
                                                        49, 50, 49,
                                                        51, 49, 52,
                                                        49, 53, 49,
                                                        54, 49, 55,
                                                        49, 56, 49,
                                                        57, 50, 48,
                                                        50, 49, 50,
                                                        50, 50, 51,
                                                        50, 52, 50,
                                                        53, 50, 54,
                                                        50, 55, 50,
                                                        56, 50, 57,
                                                        51, 48, 51,
                                                        49, 51, 50,
                                                        51, 51, 51,
                                                        52, 51, 53,
                                                        51, 54, 51,
                                                        55, 51, 56,
                                                        51, 57, 52,
                                                        48, 52, 49,
                                                        52, 50, 52,
                                                        51, 52, 52,
                                                        52, 53, 52,
                                                        54, 52, 55,
                                                        52, 56, 52,
                                                        57, 53, 48,
                                                        53, 49, 53,
                                                        50, 53, 51,
                                                        53, 52, 53,
                                                        53, 53, 54,
                                                        53, 55, 53,
                                                        56, 53, 57,
                                                        54, 48, 54,
                                                        49, 54, 50,
                                                        54, 51, 54,
                                                        52, 54, 53,
                                                        54, 54, 54,
                                                        55, 54, 56,
                                                        54, 57, 55,
                                                        48, 55, 49,
                                                        55, 50, 55,
                                                        51, 55, 52,
                                                        55, 53, 55,
                                                        54, 55, 55,
                                                        55, 56, 55,
                                                        57, 56, 48,
                                                        56, 49, 56,
                                                        50, 56, 51,
                                                        56, 52, 56,
                                                        53, 56, 54,
                                                        56, 55, 56,
                                                        56, 56, 57,
                                                        57, 48, 57,
                                                        49, 57, 50,
                                                        57, 51, 57,
                                                        52, 57, 53,
                                                        57, 54, 57,
                                                        55, 57, 56,
                                                        57, 57] } }))
                                          (Operand.tmp 77),
                                      guard := none, bef := [9] },
                                    { dst := some 79, op := Op.indexAddr 107 (Operand.tmp 68) (Operand.tmp 70), guard := none, bef := [0, 2, 1, 6, 7, 8] },
                                    { dst := none, op := Op.store 5 (Operand.tmp 79) (Operand.tmp 76), guard := none, bef := [11, 0, 2, 1, 6, 7, 8] },
                                    { dst := some 80, op := Op.indexAddr 107 (Operand.tmp 71) (Operand.tmp 73), guard := none, bef := [3, 5, 4, 0, 1, 2, 6, 7, 8, 9, 10, 11, 12] },
                                    { dst := none, op := Op.store 5 (Operand.tmp 80) (Operand.tmp 78), guard := none, bef := [13, 3, 5, 4, 0, 1, 2, 6, 7, 8, 9, 10, 11, 12] }]).seq
                              ((IC.opsD
                                    [{ dst := some 81, op := Op.move (Operand.tmp 0), guard := none }, { dst := some 82, op := Op.move (Operand.tmp 4), guard := none },
                                      { dst := some 83, op := Op.binOp BinOp.sub 3 (Operand.tmp 82) (Operand.const (Value.int IntKind.i64 (Int.ofNat 7))) 3, guard := none, bef := [1] },
                                      { dst := some 84, op := Op.move (Operand.tmp 0), guard := none }, { dst := some 85, op := Op.move (Operand.tmp 4), guard := none },
                                      { dst := some 86, op := Op.binOp BinOp.sub 3 (Operand.tmp 85) (Operand.const (Value.int IntKind.i64 (Int.ofNat 8))) 3, guard := none, bef := [4] },
                                      { dst := some 87, op := Op.move (Operand.tmp 10), guard := none },
                                      { dst := some 88, op := Op.binOp BinOp.add 113 (Operand.tmp 87) (Operand.const (Value.int IntKind.u32 (Int.ofNat 1))) 113, guard := none, bef := [6] },
                                      { dst := some 89,
                                        op :=
                                          Op.index 9
                                            (Operand.const
                                              (Value.string
                                                {
                                                  data :=
                                                    {
                                                      toList :=
                                                        [48, 48, 48,
                                                          49, 48, 50,
                                                          48, 51, 48,
                                                          52, 48, 53,
                                                          48, 54, 48,
                                                          55, 48, 56,
                                                          48, 57, 49,
                                                          48, 49, 49,
                                                          49, 50, 49,
                                                          51, 49, 52,
                                                          49, 53, 49,
                                                          54, 49, 55,
                                                          49, 56, 49,
                                                          57, 50, 48,
                                                          50, 49, 50,
                                                          50, 50, 51,
                                                          50, 52, 50,
                                                          53, 50, 54,
                                                          50, 55, 50,
                                                          56, 50, 57,
                                                          51, 48, 51,
                                                          49, 51, 50,
                                                          51, 51, 51,
                                                          52, 51, 53,
                                                          51, 54, 51,
                                                          55, 51, 56,
                                                          51, 57, 52,
                                                          48, 52, 49,
                                                          52, 50, 52,
                                                          51, 52, 52,
                                                          52, 53, 52,
                                                          54, 52, 55,
                                                          52, 56, 52,
                                                          57, 53, 48,
                                                          53, 49, 53,
                                                          50, 53, 51,
                                                          53, 52, 53,
                                                          53, 53, 54,
                                                          53, 55, 53,
                                                          56, 53, 57,
                                                          54, 48, 54,
                                                          49, 54, 50,
                                                          54, 51, 54,
                                                          52, 54, 53,
                                                          54, 54, 54,
                                                          55, 54, 56,
                                                          54, 57, 55,
                                                          48, 55, 49,
                                                          55, 50, 55,
                                                          51, 55, 52,
                                                          55, 53, 55,
                                                          54, 55, 55,
                                                          55, 56, 55,
                                                          57, 56, 48,
                                                          56, 49, 56,
                                                          50, 56, 51,
                                                          56, 52, 56,
                                                          53, 56, 54,
                                                          56, 55, 56,
                                                          56, 56, 57,
                                                          57, 48, 57,
                                                          49, 57, 50,
                                                          57, 51, 57,
                                                          52, 57, 53,
                                                          57, 54, 57,
                                                          55, 57, 56,
                                                          57, 57] } }))
                                            (Operand.tmp 88),
                                        guard := none, bef := [7, 6] },
                                      { dst := some 90, op := Op.move (Operand.tmp 10), guard := none },
                                      { dst := some 91,
                                        op :=
                                          Op.index 9
                                            (Operand.const
                                              (Value.string
                                                {
                                                  data :=
                                                    {
                                                      toList :=
                                                        [48, 48, 48,
                                                          49, 48, 50,
                                                          48, 51, 48,
                                                          52, 48, 53,
                                                          48, 54, 48,
                                                          55, 48, 56,
                                                          48, 57, 49,
                                                          48, 49, 49,
                                                          49, 50, 49,
                                                          51, 49, 52,
                                                          49, 53, 49,
                                                          54, 49, 55,
                                                          49, 56, 49,
                                                          57, 50, 48,
                                                          50, 49, 50,
                                                          50, 50, 51,
                                                          50, 52, 50,
                                                          53, 50, 54,
                                                          50, 55, 50,
                                                          56, 50, 57,
                                                          51, 48, 51,
                                                          49, 51, 50,
                                                          51, 51, 51,
                                                          52, 51, 53,
                                                          51, 54, 51,
                                                          55, 51, 56,
                                                          51, 57, 52,
                                                          48, 52, 49,
                                                          52, 50, 52,
                                                          51, 52, 52,
                                                          52, 53, 52,
                                                          54, 52, 55,
                                                          52, 56, 52,
                                                          57, 53, 48,
                                                          53, 49, 53,
                                                          50, 53, 51,
                                                          53, 52, 53,
                                                          53, 53, 54,
                                                          53, 55, 53,
                                                          56, 53, 57,
                                                          54, 48, 54,
                                                          49, 54, 50,
                                                          54, 51, 54,
                                                          52, 54, 53,
                                                          54, 54, 54,
                                                          55, 54, 56,
                                                          54, 57, 55,
                                                          48, 55, 49,
                                                          55, 50, 55,
                                                          51, 55, 52,
                                                          55, 53, 55,
                                                          54, 55, 55,
                                                          55, 56, 55,
                                                          57, 56, 48,
                                                          56, 49, 56,
                                                          50, 56, 51,
                                                          56, 52, 56,
                                                          53, 56, 54,
                                                          56, 55, 56,
                                                          56, 56, 57,
                                                          57, 48, 57,
                                                          49, 57, 50,
                                                          57, 51, 57,
                                                          52, 57, 53,
                                                          57, 54, 57,
                                                          55, 57, 56,
                                                          57, 57] } }))
                                            (Operand.tmp 90),
                                        guard := none, bef := [9] },
                                      { dst := some 92, op := Op.indexAddr 107 (Operand.tmp 81) (Operand.tmp 83), guard := none, bef := [0, 2, 1, 6, 7, 8] },
                                      { dst := none, op := Op.store 5 (Operand.tmp 92) (Operand.tmp 89), guard := none, bef := [11, 0, 2, 1, 6, 7, 8] },
                                      { dst := some 93, op := Op.indexAddr 107 (Operand.tmp 84) (Operand.tmp 86), guard := none, bef := [3, 5, 4, 0, 1, 2, 6, 7, 8, 9, 10, 11, 12] },
                                      { dst := none, op := Op.store 5 (Operand.tmp 93) (Operand.tmp 91), guard := none, bef := [13, 3, 5, 4, 0, 1, 2, 6, 7, 8, 9, 10, 11, 12] }]).seq
                                (IC.ops
                                  [{ dst := some 94, op := Op.move (Operand.tmp 4), guard := none },
                                    { dst := some 95, op := Op.binOp BinOp.sub 3 (Operand.tmp 94) (Operand.const (Value.int IntKind.i64 (Int.ofNat 8))) 3, guard := none },
                                    { dst := some 4, op := Op.assign (Operand.tmp 95), guard := none }])))))))))))).loop).seq
    ((IC.ops
          [{ dst := some 96, op := Op.move (Operand.tmp 1), guard := none }, { dst := some 97, op := Op.convert 104 113 (Operand.tmp 96), guard := none },
            { dst := some 12, op := Op.assign (Operand.tmp 97), guard := none }]).seq
      (((IC.ops
                [{ dst := some 98, op := Op.move (Operand.tmp 4), guard := none },
                  { dst := some 99, op := Op.binOp BinOp.geq 3 (Operand.tmp 98) (Operand.const (Value.int IntKind.i64 (Int.ofNat 4))) 3, guard := none }]).seq
            (IC.cond (Operand.tmp 99)
              ((IC.ops
                    [{ dst := some 100, op := Op.move (Operand.tmp 12), guard := none },
                      { dst := some 101, op := Op.binOp BinOp.rem 113 (Operand.tmp 100) (Operand.const (Value.int IntKind.u32 (Int.ofNat 10000))) 113, guard := none },
                      { dst := some 13, op := Op.assign (Operand.tmp 101), guard := none }]).seq
                ((IC.ops
                      [{ dst := some 102, op := Op.move (Operand.tmp 12), guard := none },
                        { dst := some 103, op := Op.binOp BinOp.quo 113 (Operand.tmp 102) (Operand.const (Value.int IntKind.u32 (Int.ofNat 10000))) 113, guard := none },
                        { dst := some 12, op := Op.assign (Operand.tmp 103), guard := none }]).seq
                  ((IC.ops
                        [{ dst := some 104, op := Op.move (Operand.tmp 13), guard := none },
                          { dst := some 105, op := Op.binOp BinOp.quo 113 (Operand.tmp 104) (Operand.const (Value.int IntKind.u32 (Int.ofNat 100))) 113, guard := none },
                          { dst := some 106, op := Op.binOp BinOp.mul 113 (Operand.tmp 105) (Operand.const (Value.int IntKind.u32 (Int.ofNat 2))) 113, guard := none },
                          { dst := some 107, op := Op.move (Operand.tmp 13), guard := none },
                          { dst := some 108, op := Op.binOp BinOp.rem 113 (Operand.tmp 107) (Operand.const (Value.int IntKind.u32 (Int.ofNat 100))) 113, guard := none },
                          { dst := some 109, op := Op.binOp BinOp.mul 113 (Operand.tmp 108) (Operand.const (Value.int IntKind.u32 (Int.ofNat 2))) 113, guard := none },
                          { dst := some 14, op := Op.assign (Operand.tmp 106), guard := none }, { dst := some 15, op := Op.assign (Operand.tmp 109), guard := none }]).seq
                    ((IC.opsD
                          [{ dst := some 110, op := Op.move (Operand.tmp 0), guard := none }, { dst := some 111, op := Op.move (Operand.tmp 4), guard := none },
                            { dst := some 112, op := Op.binOp BinOp.sub 3 (Operand.tmp 111) (Operand.const (Value.int IntKind.i64 (Int.ofNat 1))) 3, guard := none, bef := [1] },
                            { dst := some 113, op := Op.move (Operand.tmp 0), guard := none }, { dst := some 114, op := Op.move (Operand.tmp 4), guard := none },
                            { dst := some 115, op := Op.binOp BinOp.sub 3 (Operand.tmp 114) (Operand.const (Value.int IntKind.i64 (Int.ofNat 2))) 3, guard := none, bef := [4] },
                            { dst := some 116, op := Op.move (Operand.tmp 15), guard := none },
                            { dst := some 117, op := Op.binOp BinOp.add 113 (Operand.tmp 116) (Operand.const (Value.int IntKind.u32 (Int.ofNat 1))) 113, guard := none, bef := [6] },
                            { dst := some 118,
                              op :=
                                Op.index 9
                                  (Operand.const
                                    (Value.string
                                      {
                                        data :=
                                          {
                                            toList :=
                                              [48, 48, 48, 49,
                                                48, 50, 48, 51,
                                                48, 52, 48, 53,
                                                48, 54, 48, 55,
                                                48, 56, 48, 57,
                                                49, 48, 49, 49,
                                                49, 50, 49, 51,
                                                49, 52, 49, 53,
                                                49, 54, 49, 55,
                                                49, 56, 49, 57,
                                                50, 48, 50, 49,
                                                50, 50, 50, 51,
                                                50, 52, 50, 53,
                                                50, 54, 50, 55,
                                                50, 56, 50, 57,
                                                51, 48, 51, 49,
                                                51, 50, 51, 51,
                                                51, 52, 51, 53,
                                                51, 54, 51, 55,
                                                51, 56, 51, 57,
                                                52, 48, 52, 49,
                                                52, 50, 52, 51,
                                                52, 52, 52, 53,
                                                52, 54, 52, 55,
                                                52, 56, 52, 57,
                                                53, 48, 53, 49,
                                                53, 50, 53, 51,
                                                53, 52, 53, 53,
                                                53, 54, 53, 55,
                                                53, 56, 53, 57,
                                                54, 48, 54, 49,
                                                54, 50, 54, 51,
                                                54, 52, 54, 53,
                                                54, 54, 54, 55,
                                                54, 56, 54, 57,
                                                55, 48, 55, 49,
                                                55, 50, 55, 51,
                                                55, 52, 55, 53,
                                                55, 54, 55, 55,
                                                55, 56, 55, 57,
                                                56, 48, 56, 49,
                                                56, 50, 56, 51,
                                                56, 52, 56, 53,
                                                56, 54, 56, 55,
                                                56, 56, 56, 57,
                                                57, 48, 57, 49,
                                                57, 50, 57, 51,
                                                57, 52, 57, 53,
                                                57, 54, 57, 55,
                                                57, 56, 57,
                                                57] } }))
                                  (Operand.tmp 117),
                              guard := none, bef := [7, 6] },
                            { dst := some 119, op := Op.move (Operand.tmp 15), guard := none },
                            { dst := some 120,
                              op :=
                                Op.index 9
                                  (Operand.const
                                    (Value.string
                                      {
                                        data :=
                                          {
                                            toList :=
                                              [48, 48, 48, 49,
                                                48, 50, 48, 51,
                                                48, 52, 48, 53,
                                                48, 54, 48, 55,
                                                48, 56, 48, 57,
                                                49, 48, 49, 49,
                                                49, 50, 49, 51,
                                                49, 52, 49, 53,
                                                49, 54, 49, 55,
                                                49, 56, 49, 57,
                                                50, 48, 50, 49,
                                                50, 50, 50, 51,
                                                50, 52, 50, 53,
                                                50, 54, 50, 55,
                                                50, 56, 50, 57,
                                                51, 48, 51, 49,
                                                51, 50, 51, 51,
                                                51, 52, 51, 53,
                                                51, 54, 51, 55,
                                                51, 56, 51, 57,
                                                52, 48, 52, 49,
                                                52, 50, 52, 51,
                                                52, 52, 52, 53,
                                                52, 54, 52, 55,
                                                52, 56, 52, 57,
                                                53, 48, 53, 49,
                                                53, 50, 53, 51,
                                                53, 52, 53, 53,
                                                53, 54, 53, 55,
                                                53, 56, 53, 57,
                                                54, 48, 54, 49,
                                                54, 50, 54, 51,
                                                54, 52, 54, 53,
                                                54, 54, 54, 55,
                                                54, 56, 54, 57,
                                                55, 48, 55, 49,
                                                55, 50, 55, 51,
                                                55, 52, 55, 53,
                                                55, 54, 55, 55,
                                                55, 56, 55, 57,
                                                56, 48, 56, 49,
                                                56, 50, 56, 51,
                                                56, 52, 56, 53,
                                                56, 54, 56, 55,
                                                56, 56, 56, 57,
                                                57, 48, 57, 49,
                                                57, 50, 57, 51,
                                                57, 52, 57, 53,
                                                57, 54, 57, 55,
                                                57, 56, 57,
                                                57] } }))
                                  (Operand.tmp 119),
                              guard := none, bef := [9] },
                            { dst := some 121, op := Op.indexAddr 107 (Operand.tmp 110) (Operand.tmp 112), guard := none, bef := [0, 2, 1, 6, 7, 8] },
                            { dst := none, op := Op.store 5 (Operand.tmp 121) (Operand.tmp 118), guard := none, bef := [11, 0, 2, 1, 6, 7, 8] },
                            { dst := some 122, op := Op.indexAddr 107 (Operand.tmp 113) (Operand.tmp 115), guard := none, bef := [3, 5, 4, 0, 1, 2, 6, 7, 8, 9, 10, 11, 12] },
                            { dst := none, op := Op.store 5 (Operand.tmp 122) (Operand.tmp 120), guard := none, bef := [13, 3, 5, 4, 0, 1, 2, 6, 7, 8, 9, 10, 11, 12] }]).seq
                      ((IC.opsD
                            [{ dst := some 123, op := Op.move (Operand.tmp 0), guard := none }, { dst := some 124, op := Op.move (Operand.tmp 4), guard := none },
                              { dst := some 125, op := Op.binOp BinOp.sub 3 (Operand.tmp 124) (Operand.const (Value.int IntKind.i64 (Int.ofNat 3))) 3, guard := none, bef := [1] },
                              { dst := some 126, op := Op.move (Operand.tmp 0), guard := none }, { dst := some 127, op := Op.move (Operand.tmp 4), guard := none },
                              { dst := some 128, op := Op.binOp BinOp.sub 3 (Operand.tmp 127) (Operand.const (Value.int IntKind.i64 (Int.ofNat 4))) 3, guard := none, bef := [4] },
                              { dst := some 129, op := Op.move (Operand.tmp 14), guard := none },
                              { dst := some 130, op := Op.binOp BinOp.add 113 (Operand.tmp 129) (Operand.const (Value.int IntKind.u32 (Int.ofNat 1))) 113, guard := none, bef := [6] },
                              { dst := some 131,
                                op :=
                                  Op.index 9
                                    (Operand.const
                                      (Value.string
                                        {
                                          data :=
                                            {
                                              toList :=
                                                [48, 48, 48, 49,
                                                  48, 50, 48,
                                                  51, 48, 52,
                                                  48, 53, 48,
                                                  54, 48, 55,
                                                  48, 56, 48,
                                                  57, 49, 48,
                                                  49, 49, 49,
                                                  50, 49, 51,
                                                  49, 52, 49,
                                                  53, 49, 54,
                                                  49, 55, 49,
                                                  56, 49, 57,
                                                  50, 48, 50,
                                                  49, 50, 50,
                                                  50, 51, 50,
                                                  52, 50, 53,
                                                  50, 54, 50,
                                                  55, 50, 56,
                                                  50, 57, 51,
                                                  48, 51, 49,
                                                  51, 50, 51,
                                                  51, 51, 52,
                                                  51, 53, 51,
                                                  54, 51, 55,
                                                  51, 56, 51,
                                                  57, 52, 48,
                                                  52, 49, 52,
                                                  50, 52, 51,
                                                  52, 52, 52,
                                                  53, 52, 54,
                                                  52, 55, 52,
                                                  56, 52, 57,
                                                  53, 48, 53,
                                                  49, 53, 50,
                                                  53, 51, 53,
                                                  52, 53, 53,
                                                  53, 54, 53,
                                                  55, 53, 56,
                                                  53, 57, 54,
                                                  48, 54, 49,
                                                  54, 50, 54,
                                                  51, 54, 52,
                                                  54, 53, 54,
                                                  54, 54, 55,
                                                  54, 56, 54,
                                                  57, 55, 48,
                                                  55, 49, 55,
                                                  50, 55, 51,
                                                  55, 52, 55,
                                                  53, 55, 54,
                                                  55, 55, 55,
                                                  56, 55, 57,
                                                  56, 48, 56,
                                                  49, 56, 50,
                                                  56, 51, 56,
                                                  52, 56, 53,
                                                  56, 54, 56,
                                                  55, 56, 56,
                                                  56, 57, 57,
                                                  48, 57, 49,
                                                  57, 50, 57,
                                                  51, 57, 52,
                                                  57, 53, 57,
                                                  54, 57, 55,
                                                  57, 56, 57,
                                                  57] } }))
                                    (Operand.tmp 130),
                                guard := none, bef := [7, 6] },
                              { dst := some 132, op := Op.move (Operand.tmp 14), guard := none },
                              { dst := some 133,
                                op :=
                                  Op.index 9
                                    (Operand.const
                                      (Value.string
                                        {
                                          data :=
                                            {
                                              toList :=
                                                [48, 48, 48, 49,
                                                  48, 50, 48,
                                                  51, 48, 52,
                                                  48, 53, 48,
                                                  54, 48, 55,
                                                  48, 56, 48,
                                                  57, 49, 48,
                                                  49, 49, 49,
                                                  50, 49, 51,
                                                  49, 52, 49,
                                                  53, 49, 54,
                                                  49, 55, 49,
                                                  56, 49, 57,
                                                  50, 48, 50,
                                                  49, 50, 50,
                                                  50, 51, 50,
                                                  52, 50, 53,
                                                  50, 54, 50,
                                                  55, 50, 56,
                                                  50, 57, 51,
                                                  48, 51, 49,
                                                  51, 50, 51,
                                                  51, 51, 52,
                                                  51, 53, 51,
                                                  54, 51, 55,
                                                  51, 56, 51,
                                                  57, 52, 48,
                                                  52, 49, 52,
                                                  50, 52, 51,
                                                  52, 52, 52,
                                                  53, 52, 54,
                                                  52, 55, 52,
                                                  56, 52, 57,
                                                  53, 48, 53,
                                                  49, 53, 50,
                                                  53, 51, 53,
                                                  52, 53, 53,
                                                  53, 54, 53,
                                                  55, 53, 56,
                                                  53, 57, 54,
                                                  48, 54, 49,
                                                  54, 50, 54,
                                                  51, 54, 52,
                                                  54, 53, 54,
                                                  54, 54, 55,
                                                  54, 56, 54,
                                                  57, 55, 48,
                                                  55, 49, 55,
                                                  50, 55, 51,
                                                  55, 52, 55,
                                                  53, 55, 54,
                                                  55, 55, 55,
                                                  56, 55, 57,
                                                  56, 48, 56,
                                                  49, 56, 50,
                                                  56, 51, 56,
                                                  52, 56, 53,
                                                  56, 54, 56,
                                                  55, 56, 56,
                                                  56, 57, 57,
                                                  48, 57, 49,
                                                  57, 50, 57,
                                                  51, 57, 52,
                                                  57, 53, 57,
                                                  54, 57, 55,
                                                  57, 56, 57,
                                                  57] } }))
                                    (Operand.tmp 132),
                                guard := none, bef := [9] },
                              { dst := some 134, op := Op.indexAddr 107 (Operand.tmp 123) (Operand.tmp 125), guard := none, bef := [0, 2, 1, 6, 7, 8] },
                              { dst := none, op := Op.store 5 (Operand.tmp 134) (Operand.tmp 131), guard := none, bef := [11, 0, 2, 1, 6, 7, 8] },
                              { dst := some 135, op := Op.indexAddr 107 (Operand.tmp 126) (Operand.tmp 128), guard := none, bef := [3, 5, 4, 0, 1, 2, 6, 7, 8, 9, 10, 11, 12] },
                              { dst := none, op := Op.store 5 (Operand.tmp 135) (Operand.tmp 133), guard := none, bef := [13, 3, 5, 4, 0, 1, 2, 6, 7, 8, 9, 10, 11, 12] }]).seq
                        (IC.ops
                          [{ dst := some 136, op := Op.move (Operand.tmp 4), guard := none },
                            { dst := some 137, op := Op.binOp BinOp.sub 3 (Operand.tmp 136) (Operand.const (Value.int IntKind.i64 (Int.ofNat 4))) 3, guard := none },
                            { dst := some 4, op := Op.assign (Operand.tmp 137), guard := none }]))))))
              IC.skip)).seq
        (((IC.ops
                  [{ dst := some 138, op := Op.move (Operand.tmp 4), guard := none },
                    { dst := some 139, op := Op.binOp BinOp.geq 3 (Operand.tmp 138) (Operand.const (Value.int IntKind.i64 (Int.ofNat 2))) 3, guard := none }]).seq
              (IC.cond (Operand.tmp 139)
                ((IC.ops
                      [{ dst := some 140, op := Op.move (Operand.tmp 12), guard := none },
                        { dst := some 141, op := Op.binOp BinOp.rem 113 (Operand.tmp 140) (Operand.const (Value.int IntKind.u32 (Int.ofNat 100))) 113, guard := none },
                        { dst := some 142, op := Op.binOp BinOp.mul 113 (Operand.tmp 141) (Operand.const (Value.int IntKind.u32 (Int.ofNat 2))) 113, guard := none },
                        { dst := some 16, op := Op.assign (Operand.tmp 142), guard := none }]).seq
                  ((IC.ops
                        [{ dst := some 143, op := Op.move (Operand.tmp 12), guard := none },
                          { dst := some 144, op := Op.binOp BinOp.quo 113 (Operand.tmp 143) (Operand.const (Value.int IntKind.u32 (Int.ofNat 100))) 113, guard := none },
                          { dst := some 12, op := Op.assign (Operand.tmp 144), guard := none }]).seq
                    ((IC.opsD
                          [{ dst := some 145, op := Op.move (Operand.tmp 0), guard := none }, { dst := some 146, op := Op.move (Operand.tmp 4), guard := none },
                            { dst := some 147, op := Op.binOp BinOp.sub 3 (Operand.tmp 146) (Operand.const (Value.int IntKind.i64 (Int.ofNat 1))) 3, guard := none, bef := [1] },
                            { dst := some 148, op := Op.move (Operand.tmp 0), guard := none }, { dst := some 149, op := Op.move (Operand.tmp 4), guard := none },
                            { dst := some 150, op := Op.binOp BinOp.sub 3 (Operand.tmp 149) (Operand.const (Value.int IntKind.i64 (Int.ofNat 2))) 3, guard := none, bef := [4] },
                            { dst := some 151, op := Op.move (Operand.tmp 16), guard := none },
                            { dst := some 152, op := Op.binOp BinOp.add 113 (Operand.tmp 151) (Operand.const (Value.int IntKind.u32 (Int.ofNat 1))) 113, guard := none, bef := [6] },
                            { dst := some 153,
                              op :=
                                Op.index 9
                                  (Operand.const
                                    (Value.string
                                      {
                                        data :=
                                          {
                                            toList :=
                                              [48, 48, 48, 49,
                                                48, 50, 48, 51,
                                                48, 52, 48, 53,
                                                48, 54, 48, 55,
                                                48, 56, 48, 57,
                                                49, 48, 49, 49,
                                                49, 50, 49, 51,
                                                49, 52, 49, 53,
                                                49, 54, 49, 55,
                                                49, 56, 49, 57,
                                                50, 48, 50, 49,
                                                50, 50, 50, 51,
                                                50, 52, 50, 53,
                                                50, 54, 50, 55,
                                                50, 56, 50, 57,
                                                51, 48, 51, 49,
                                                51, 50, 51, 51,
                                                51, 52, 51, 53,
                                                51, 54, 51, 55,
                                                51, 56, 51, 57,
                                                52, 48, 52, 49,
                                                52, 50, 52, 51,
                                                52, 52, 52, 53,
                                                52, 54, 52, 55,
                                                52, 56, 52, 57,
                                                53, 48, 53, 49,
                                                53, 50, 53, 51,
                                                53, 52, 53, 53,
                                                53, 54, 53, 55,
                                                53, 56, 53, 57,
                                                54, 48, 54, 49,
                                                54, 50, 54, 51,
                                                54, 52, 54, 53,
                                                54, 54, 54, 55,
                                                54, 56, 54, 57,
                                                55, 48, 55, 49,
                                                55, 50, 55, 51,
                                                55, 52, 55, 53,
                                                55, 54, 55, 55,
                                                55, 56, 55, 57,
                                                56, 48, 56, 49,
                                                56, 50, 56, 51,
                                                56, 52, 56, 53,
                                                56, 54, 56, 55,
                                                56, 56, 56, 57,
                                                57, 48, 57, 49,
                                                57, 50, 57, 51,
                                                57, 52, 57, 53,
                                                57, 54, 57, 55,
                                                57, 56, 57,
                                                57] } }))
                                  (Operand.tmp 152),
                              guard := none, bef := [7, 6] },
                            { dst := some 154, op := Op.move (Operand.tmp 16), guard := none },
                            { dst := some 155,
                              op :=
                                Op.index 9
                                  (Operand.const
                                    (Value.string
                                      {
                                        data :=
                                          {
                                            toList :=
                                              [48, 48, 48, 49,
                                                48, 50, 48, 51,
                                                48, 52, 48, 53,
                                                48, 54, 48, 55,
                                                48, 56, 48, 57,
                                                49, 48, 49, 49,
                                                49, 50, 49, 51,
                                                49, 52, 49, 53,
                                                49, 54, 49, 55,
                                                49, 56, 49, 57,
                                                50, 48, 50, 49,
                                                50, 50, 50, 51,
                                                50, 52, 50, 53,
                                                50, 54, 50, 55,
                                                50, 56, 50, 57,
                                                51, 48, 51, 49,
                                                51, 50, 51, 51,
                                                51, 52, 51, 53,
                                                51, 54, 51, 55,
                                                51, 56, 51, 57,
                                                52, 48, 52, 49,
                                                52, 50, 52, 51,
                                                52, 52, 52, 53,
                                                52, 54, 52, 55,
                                                52, 56, 52, 57,
                                                53, 48, 53, 49,
                                                53, 50, 53, 51,
                                                53, 52, 53, 53,
                                                53, 54, 53, 55,
                                                53, 56, 53, 57,
                                                54, 48, 54, 49,
                                                54, 50, 54, 51,
                                                54, 52, 54, 53,
                                                54, 54, 54, 55,
                                                54, 56, 54, 57,
                                                55, 48, 55, 49,
                                                55, 50, 55, 51,
                                                55, 52, 55, 53,
                                                55, 54, 55, 55,
                                                55, 56, 55, 57,
                                                56, 48, 56, 49,
                                                56, 50, 56, 51,
                                                56, 52, 56, 53,
                                                56, 54, 56, 55,
                                                56, 56, 56, 57,
                                                57, 48, 57, 49,
                                                57, 50, 57, 51,
                                                57, 52, 57, 53,
                                                57, 54, 57, 55,
                                                57, 56, 57,
                                                57] } }))
                                  (Operand.tmp 154),
                              guard := none, bef := [9] },
                            { dst := some 156, op := Op.indexAddr 107 (Operand.tmp 145) (Operand.tmp 147), guard := none, bef := [0, 2, 1, 6, 7, 8] },
                            { dst := none, op := Op.store 5 (Operand.tmp 156) (Operand.tmp 153), guard := none, bef := [11, 0, 2, 1, 6, 7, 8] },
                            { dst := some 157, op := Op.indexAddr 107 (Operand.tmp 148) (Operand.tmp 150), guard := none, bef := [3, 5, 4, 0, 1, 2, 6, 7, 8, 9, 10, 11, 12] },
                            { dst := none, op := Op.store 5 (Operand.tmp 157) (Operand.tmp 155), guard := none, bef := [13, 3, 5, 4, 0, 1, 2, 6, 7, 8, 9, 10, 11, 12] }]).seq
                      (IC.ops
                        [{ dst := some 158, op := Op.move (Operand.tmp 4), guard := none },
                          { dst := some 159, op := Op.binOp BinOp.sub 3 (Operand.tmp 158) (Operand.const (Value.int IntKind.i64 (Int.ofNat 2))) 3, guard := none },
                          { dst := some 4, op := Op.assign (Operand.tmp 159), guard := none }]))))
                IC.skip)).seq
          ((IC.ops
                [{ dst := some 160, op := Op.move (Operand.tmp 4), guard := none },
                  { dst := some 161, op := Op.binOp BinOp.gtr 3 (Operand.tmp 160) (Operand.const (Value.int IntKind.i64 (Int.ofNat 0))) 3, guard := none }]).seq
            (IC.cond (Operand.tmp 161)
              (IC.ops
                [{ dst := some 162, op := Op.move (Operand.tmp 0), guard := none }, { dst := some 163, op := Op.move (Operand.tmp 12), guard := none },
                  { dst := some 164, op := Op.binOp BinOp.add 113 (Operand.const (Value.int IntKind.u32 (Int.ofNat 48))) (Operand.tmp 163) 113, guard := none },
                  { dst := some 165, op := Op.convert 113 5 (Operand.tmp 164), guard := none },
                  { dst := some 166, op := Op.indexAddr 107 (Operand.tmp 162) (Operand.const (Value.int IntKind.i64 (Int.ofNat 0))), guard := none },
                  { dst := none, op := Op.store 5 (Operand.tmp 166) (Operand.tmp 165), guard := none }])
              IC.skip))))))
theorem ic46_eq : Tryd.f46.body.map comp = some ic46 := by kernel_rfl
theorem ic46_ok : Tryd.f46.body.map (okC Tryd.f46.ntmps) = some true := by kernel_rfl
theorem ic46_nm : (Tryd.f46.name != "runtime.NumGoroutine") = true := by kernel_rfl
@[simp] theorem ic46_n : Tryd.f46.ntmps = 167 := by kernel_rfl
@[simp] theorem ic46_r : Tryd.f46.results.toList = [] := by kernel_rfl

def ic47 : IC :=
  (IC.ops
      [{ dst := some 10, op := Op.assign (Operand.const (Value.slice none 0 0)), guard := none },
        { dst := some 11, op := Op.assign (Operand.const (Value.string { data := { toList := [] } })), guard := none }]).seq
  (((IC.ops
            [{ dst := some 19, op := Op.move (Operand.tmp 2), guard := none },
              { dst := some 20, op := Op.binOp BinOp.lss 3 (Operand.tmp 19) (Operand.const (Value.int IntKind.i64 (Int.ofNat 2))) 3, guard := none },
              { dst := some 21, op := Op.move (Operand.tmp 20), guard := none }, { dst := some 22, op := Op.move (Operand.tmp 2), guard := some (some 21, false) },
              { dst := some 23, op := Op.binOp BinOp.eql 3 (Operand.tmp 22) (Operand.const (Value.int IntKind.i64 (Int.ofNat 10))) 3, guard := some (some 21, false) },
              { dst := some 24, op := Op.pick (Operand.tmp 21) (Operand.const (Value.bool true)) (Operand.tmp 23), guard := none }, { dst := some 25, op := Op.move (Operand.tmp 24), guard := none },
              { dst := some 26, op := Op.move (Operand.tmp 2), guard := some (some 25, false) },
              { dst := some 27, op := Op.binOp BinOp.gtr 3 (Operand.tmp 26) (Operand.const (Value.int IntKind.i64 (Int.ofNat 36))) 3, guard := some (some 25, false) },
              { dst := some 28, op := Op.pick (Operand.tmp 25) (Operand.const (Value.bool true)) (Operand.tmp 27), guard := none }]).seq
        (IC.cond (Operand.tmp 28)
          (IC.ops
            [{ dst := some 29,
                op :=
                  Op.makeInterface 9
                    (Operand.const
                      (Value.string
                        {
                          data :=
                            {
                              toList :=
                                [115, 116, 114, 99,
                                  111, 110, 118, 58,
                                  32, 105, 108, 108,
                                  101, 103, 97, 108,
                                  32, 65, 112, 112,
                                  101, 110, 100, 73,
                                  110, 116, 47, 70,
                                  111, 114, 109, 97,
                                  116, 73, 110, 116,
                                  32, 98, 97, 115,
                                  101] } })),
                guard := none },
              { dst := none, op := Op.panic (Operand.tmp 29), guard := none }])
          IC.skip)).seq
    ((IC.ops [{ dst := some 12, op := Op.alloc 114, guard := none }]).seq
      ((IC.ops [{ dst := some 13, op := Op.assign (Operand.const (Value.int IntKind.i64 (Int.ofNat 65))), guard := none }]).seq
        (((IC.ops [{ dst := some 30, op := Op.move (Operand.tmp 3), guard := none }]).seq
              (IC.cond (Operand.tmp 30)
                (IC.ops
                  [{ dst := some 31, op := Op.move (Operand.tmp 1), guard := none }, { dst := some 32, op := Op.unOp UnOp.neg 104 (Operand.tmp 31), guard := none },
                    { dst := some 1, op := Op.assign (Operand.tmp 32), guard := none }])
                IC.skip)).seq
          (((IC.ops
                    [{ dst := some 33, op := Op.move (Operand.tmp 2), guard := none },
                      { dst := some 34, op := Op.call { callee := Callee.value (Operand.func 51), args := { toList := [Operand.tmp 33] }, argTypes := { toList := [3] } }, guard := none }]).seq
                (IC.cond (Operand.tmp 34)
                  ((IC.ops
                        [{ dst := some 35, op := Op.move (Operand.tmp 2), guard := none }, { dst := some 36, op := Op.convert 3 116 (Operand.tmp 35), guard := none },
                          { dst := some 37, op := Op.call { callee := Callee.value (Operand.func 52), args := { toList := [Operand.tmp 36] }, argTypes := { toList := [116] } }, guard := none },
                          { dst := some 38, op := Op.convert 3 116 (Operand.tmp 37), guard := none }, { dst := some 14, op := Op.assign (Operand.tmp 38), guard := none }]).seq
                    ((IC.ops
                          [{ dst := some 39, op := Op.move (Operand.tmp 2), guard := none }, { dst := some 40, op := Op.convert 3 104 (Operand.tmp 39), guard := none },
                            { dst := some 15, op := Op.assign (Operand.tmp 40), guard := none }]).seq
                      ((IC.ops
                            [{ dst := some 41, op := Op.move (Operand.tmp 2), guard := none }, { dst := some 42, op := Op.convert 3 116 (Operand.tmp 41), guard := none },
                              { dst := some 43, op := Op.binOp BinOp.sub 116 (Operand.tmp 42) (Operand.const (Value.int IntKind.u64 (Int.ofNat 1))) 116, guard := none },
                              { dst := some 16, op := Op.assign (Operand.tmp 43), guard := none }]).seq
                        ((IC.block 0
                              (((IC.ops
                                          [{ dst := some 44, op := Op.move (Operand.tmp 1), guard := none }, { dst := some 45, op := Op.move (Operand.tmp 15), guard := none },
                                            { dst := some 46, op := Op.binOp BinOp.geq 104 (Operand.tmp 44) (Operand.tmp 45) 104, guard := none }]).seq
                                      (IC.cond (Operand.tmp 46) IC.skip (IC.exit 0))).seq
                                  (IC.block 1
                                    ((IC.ops
                                          [{ dst := some 47, op := Op.move (Operand.tmp 13), guard := none },
                                            { dst := some 48, op := Op.binOp BinOp.sub 3 (Operand.tmp 47) (Operand.const (Value.int IntKind.i64 (Int.ofNat 1))) 3, guard := none },
                                            { dst := some 13, op := Op.assign (Operand.tmp 48), guard := none }]).seq
                                      ((IC.ops
                                            [{ dst := some 49, op := Op.move (Operand.tmp 13), guard := none }, { dst := some 50, op := Op.move (Operand.tmp 1), guard := none },
                                              { dst := some 51, op := Op.move (Operand.tmp 16), guard := none },
                                              { dst := some 52, op := Op.binOp BinOp.and 116 (Operand.tmp 50) (Operand.tmp 51) 116, guard := none },
                                              { dst := some 53,
                                                op :=
                                                  Op.index 9
                                                    (Operand.const
                                                      (Value.string
                                                        {
                                                          data :=
                                                            {
                                                              toList :=
                                                                [48, 49, 50,
                                                                  51, 52, 53,
                                                                  54, 55, 56,
                                                                  57, 97, 98,
                                                                  99, 100, 101,
                                                                  102, 103, 104,
                                                                  105, 106, 107,
                                                                  108, 109, 110,
                                                                  111, 112, 113,
                                                                  114, 115, 116,
                                                                  117, 118, 119,
                                                                  120, 121, 122] } }))
                                                    (Operand.tmp 52),
                                                guard := none },
                                              { dst := some 54, op := Op.indexAddr 114 (Operand.tmp 12) (Operand.tmp 49), guard := none },
                                              { dst := none, op := Op.store 5 (Operand.tmp 54) (Operand.tmp 53), guard := none }]).seq
                                        (IC.ops
                                          [{ dst := some 55, op := Op.move (Operand.tmp 1), guard := none }, { dst := some 56, op := Op.move (Operand.tmp 14), guard := none },
                                            { dst := some 57, op := Op.binOp BinOp.shr 104 (Operand.tmp 55) (Operand.tmp 56) 116, guard := none },
                                            { dst := some 1, op := Op.assign (Operand.tmp 57), guard := none }]))))).loop).seq
                          ((IC.ops
                                [{ dst := some 58, op := Op.move (Operand.tmp 13), guard := none },
                                  { dst := some 59, op := Op.binOp BinOp.sub 3 (Operand.tmp 58) (Operand.const (Value.int IntKind.i64 (Int.ofNat 1))) 3, guard := none },
                                  { dst := some 13, op := Op.assign (Operand.tmp 59), guard := none }]).seq
                            (IC.ops
                              [{ dst := some 60, op := Op.move (Operand.tmp 13), guard := none }, { dst := some 61, op := Op.move (Operand.tmp 1), guard := none },
                                { dst := some 62,
                                  op :=
                                    Op.index 9
                                      (Operand.const
                                        (Value.string
                                          {
                                            data :=
                                              {
                                                toList :=
                                                  [48, 49, 50,
                                                    51, 52, 53,
                                                    54, 55, 56,
                                                    57, 97, 98,
                                                    99, 100, 101,
                                                    102, 103, 104,
                                                    105, 106, 107,
                                                    108, 109, 110,
                                                    111, 112, 113,
                                                    114, 115, 116,
                                                    117, 118, 119,
                                                    120, 121, 122] } }))
                                      (Operand.tmp 61),
                                  guard := none },
                                { dst := some 63, op := Op.indexAddr 114 (Operand.tmp 12) (Operand.tmp 60), guard := none },
                                { dst := none, op := Op.store 5 (Operand.tmp 63) (Operand.tmp 62), guard := none }]))))))
                  ((IC.ops
                        [{ dst := some 64, op := Op.move (Operand.tmp 2), guard := none }, { dst := some 65, op := Op.convert 3 104 (Operand.tmp 64), guard := none },
                          { dst := some 17, op := Op.assign (Operand.tmp 65), guard := none }]).seq
                    ((IC.block 2
                          (((IC.ops
                                      [{ dst := some 66, op := Op.move (Operand.tmp 1), guard := none }, { dst := some 67, op := Op.move (Operand.tmp 17), guard := none },
                                        { dst := some 68, op := Op.binOp BinOp.geq 104 (Operand.tmp 66) (Operand.tmp 67) 104, guard := none }]).seq
                                  (IC.cond (Operand.tmp 68) IC.skip (IC.exit 2))).seq
                              (IC.block 3
                                ((IC.ops
                                      [{ dst := some 69, op := Op.move (Operand.tmp 13), guard := none },
                                        { dst := some 70, op := Op.binOp BinOp.sub 3 (Operand.tmp 69) (Operand.const (Value.int IntKind.i64 (Int.ofNat 1))) 3, guard := none },
                                        { dst := some 13, op := Op.assign (Operand.tmp 70), guard := none }]).seq
                                  ((IC.ops
                                        [{ dst := some 71, op := Op.move (Operand.tmp 1), guard := none }, { dst := some 72, op := Op.move (Operand.tmp 17), guard := none },
                                          { dst := some 73, op := Op.binOp BinOp.quo 104 (Operand.tmp 71) (Operand.tmp 72) 104, guard := none },
                                          { dst := some 18, op := Op.assign (Operand.tmp 73), guard := none }]).seq
                                    ((IC.ops
                                          [{ dst := some 74, op := Op.move (Operand.tmp 13), guard := none }, { dst := some 75, op := Op.move (Operand.tmp 1), guard := none },
                                            { dst := some 76, op := Op.move (Operand.tmp 18), guard := none }, { dst := some 77, op := Op.move (Operand.tmp 17), guard := none },
                                            { dst := some 78, op := Op.binOp BinOp.mul 104 (Operand.tmp 76) (Operand.tmp 77) 104, guard := none },
                                            { dst := some 79, op := Op.binOp BinOp.sub 104 (Operand.tmp 75) (Operand.tmp 78) 104, guard := none },
                                            { dst := some 80,
                                              op :=
                                                Op.index 9
                                                  (Operand.const
                                                    (Value.string
                                                      {
                                                        data :=
                                                          {
                                                            toList :=
                                                              [48, 49, 50,
                                                                51, 52, 53,
                                                                54, 55, 56,
                                                                57, 97, 98,
                                                                99, 100, 101,
                                                                102, 103, 104,
                                                                105, 106, 107,
                                                                108, 109, 110,
                                                                111, 112, 113,
                                                                114, 115, 116,
                                                                117, 118, 119,
                                                                120, 121, 122] } }))
                                                  (Operand.tmp 79),
                                              guard := none },
                                            { dst := some 81, op := Op.indexAddr 114 (Operand.tmp 12) (Operand.tmp 74), guard := none },
                                            { dst := none, op := Op.store 5 (Operand.tmp 81) (Operand.tmp 80), guard := none }]).seq
                                      (IC.ops [{ dst := some 82, op := Op.move (Operand.tmp 18), guard := none }, { dst := some 1, op := Op.assign (Operand.tmp 82), guard := none }])))))).loop).seq
                      ((IC.ops
                            [{ dst := some 83, op := Op.move (Operand.tmp 13), guard := none },
                              { dst := some 84, op := Op.binOp BinOp.sub 3 (Operand.tmp 83) (Operand.const (Value.int IntKind.i64 (Int.ofNat 1))) 3, guard := none },
                              { dst := some 13, op := Op.assign (Operand.tmp 84), guard := none }]).seq
                        (IC.ops
                          [{ dst := some 85, op := Op.move (Operand.tmp 13), guard := none }, { dst := some 86, op := Op.move (Operand.tmp 1), guard := none },
                            { dst := some 87,
                              op :=
                                Op.index 9
                                  (Operand.const
                                    (Value.string
                                      {
                                        data :=
                                          {
                                            toList :=
                                              [48, 49, 50, 51,
                                                52, 53, 54, 55,
                                                56, 57, 97, 98,
                                                99, 100, 101,
                                                102, 103, 104,
                                                105, 106, 107,
                                                108, 109, 110,
                                                111, 112, 113,
                                                114, 115, 116,
                                                117, 118, 119,
                                                120, 121, 122] } }))
                                  (Operand.tmp 86),
                              guard := none },
                            { dst := some 88, op := Op.indexAddr 114 (Operand.tmp 12) (Operand.tmp 85), guard := none },
                            { dst := none, op := Op.store 5 (Operand.tmp 88) (Operand.tmp 87), guard := none }])))))).seq
            (((IC.ops [{ dst := some 89, op := Op.move (Operand.tmp 3), guard := none }]).seq
                  (IC.cond (Operand.tmp 89)
                    ((IC.ops
                          [{ dst := some 90, op := Op.move (Operand.tmp 13), guard := none },
                            { dst := some 91, op := Op.binOp BinOp.sub 3 (Operand.tmp 90) (Operand.const (Value.int IntKind.i64 (Int.ofNat 1))) 3, guard := none },
                            { dst := some 13, op := Op.assign (Operand.tmp 91), guard := none }]).seq
                      (IC.ops
                        [{ dst := some 92, op := Op.move (Operand.tmp 13), guard := none }, { dst := some 93, op := Op.indexAddr 114 (Operand.tmp 12) (Operand.tmp 92), guard := none },
                          { dst := none, op := Op.store 5 (Operand.tmp 93) (Operand.const (Value.int IntKind.u8 (Int.ofNat 45))), guard := none }]))
                    IC.skip)).seq
              (((IC.ops [{ dst := some 94, op := Op.move (Operand.tmp 4), guard := none }]).seq
                    (IC.cond (Operand.tmp 94)
                      ((IC.ops
                            [{ dst := some 95, op := Op.move (Operand.tmp 0), guard := none }, { dst := some 96, op := Op.move (Operand.tmp 13), guard := none },
                              { dst := some 97, op := Op.slice 114 (Operand.tmp 12) (some (Operand.tmp 96)) none none, guard := none },
                              { dst := some 98, op := Op.call { callee := Callee.builtin Builtin.append, args := { toList := [Operand.tmp 95, Operand.tmp 97] }, argTypes := { toList := [107, 107] } },
                                guard := none },
                              { dst := some 10, op := Op.assign (Operand.tmp 98), guard := none }]).seq
                        IC.ret)
                      IC.skip)).seq
                ((IC.ops
                      [{ dst := some 99, op := Op.move (Operand.tmp 13), guard := none }, { dst := some 100, op := Op.slice 114 (Operand.tmp 12) (some (Operand.tmp 99)) none none, guard := none },
                        { dst := some 101, op := Op.convert 107 9 (Operand.tmp 100), guard := none }, { dst := some 11, op := Op.assign (Operand.tmp 101), guard := none }]).seq
                  IC.ret))))))))
theorem ic47_eq : Tryd.f47.body.map comp = some ic47 := by kernel_rfl
theorem ic47_ok : Tryd.f47.body.map (okC Tryd.f47.ntmps) = some true := by kernel_rfl
theorem ic47_nm : (Tryd.f47.name != "runtime.NumGoroutine") = true := by kernel_rfl
@[simp] theorem ic47_n : Tryd.f47.ntmps = 102 := by kernel_rfl
@[simp] theorem ic47_r : Tryd.f47.results.toList = [ResultVar.tmp 10, ResultVar.tmp 11] := by kernel_rfl

def ic48 : IC :=
  (IC.ops [{ dst := some 2, op := Op.assign (Operand.const (Value.int IntKind.i64 (Int.ofNat 0))), guard := none }]).seq
  ((IC.ops
        [{ dst := some 3, op := Op.move (Operand.tmp 0), guard := none },
          { dst := some 4, op := Op.binOp BinOp.mul 3 (Operand.tmp 3) (Operand.const (Value.int IntKind.i64 (Int.ofNat 78913))) 3, guard := none },
          { dst := some 5, op := Op.binOp BinOp.shr 3 (Operand.tmp 4) (Operand.const (Value.int IntKind.u64 (Int.ofNat 18))) 116, guard := none },
          { dst := some 2, op := Op.assign (Operand.tmp 5), guard := none }]).seq
    IC.ret)
theorem ic48_eq : Tryd.f48.body.map comp = some ic48 := by kernel_rfl
theorem ic48_ok : Tryd.f48.body.map (okC Tryd.f48.ntmps) = some true := by kernel_rfl
theorem ic48_nm : (Tryd.f48.name != "runtime.NumGoroutine") = true := by kernel_rfl
@[simp] theorem ic48_n : Tryd.f48.ntmps = 6 := by kernel_rfl
@[simp] theorem ic48_r : Tryd.f48.results.toList = [ResultVar.tmp 2] := by kernel_rfl

def ic50 : IC :=
  (IC.ops [{ dst := some 2, op := Op.assign (Operand.const (Value.int IntKind.i64 (Int.ofNat 0))), guard := none }]).seq
  (((IC.ops [{ dst := some 3, op := Op.move (Operand.tmp 0), guard := none }]).seq
        (IC.cond (Operand.tmp 3) ((IC.ops [{ dst := some 2, op := Op.assign (Operand.const (Value.int IntKind.i64 (Int.ofNat 1))), guard := none }]).seq IC.ret) IC.skip)).seq
    ((IC.ops [{ dst := some 2, op := Op.assign (Operand.const (Value.int IntKind.i64 (Int.ofNat 0))), guard := none }]).seq IC.ret))
theorem ic50_eq : Tryd.f50.body.map comp = some ic50 := by kernel_rfl
theorem ic50_ok : Tryd.f50.body.map (okC Tryd.f50.ntmps) = some true := by kernel_rfl
theorem ic50_nm : (Tryd.f50.name != "runtime.NumGoroutine") = true := by kernel_rfl
@[simp] theorem ic50_n : Tryd.f50.ntmps = 4 := by kernel_rfl
@[simp] theorem ic50_r : Tryd.f50.results.toList = [ResultVar.tmp 2] := by kernel_rfl

def ic51 : IC :=
  (IC.ops [{ dst := some 2, op := Op.assign (Operand.const (Value.bool false)), guard := none }]).seq
  ((IC.ops
        [{ dst := some 3, op := Op.move (Operand.tmp 0), guard := none }, { dst := some 4, op := Op.move (Operand.tmp 0), guard := none },
          { dst := some 5, op := Op.binOp BinOp.sub 3 (Operand.tmp 4) (Operand.const (Value.int IntKind.i64 (Int.ofNat 1))) 3, guard := none },
          { dst := some 6, op := Op.binOp BinOp.and 3 (Operand.tmp 3) (Operand.tmp 5) 3, guard := none },
          { dst := some 7, op := Op.binOp BinOp.eql 3 (Operand.tmp 6) (Operand.const (Value.int IntKind.i64 (Int.ofNat 0))) 3, guard := none },
          { dst := some 2, op := Op.assign (Operand.tmp 7), guard := none }]).seq
    IC.ret)
theorem ic51_eq : Tryd.f51.body.map comp = some ic51 := by kernel_rfl
theorem ic51_ok : Tryd.f51.body.map (okC Tryd.f51.ntmps) = some true := by kernel_rfl
theorem ic51_nm : (Tryd.f51.name != "runtime.NumGoroutine") = true := by kernel_rfl
@[simp] theorem ic51_n : Tryd.f51.ntmps = 8 := by kernel_rfl
@[simp] theorem ic51_r : Tryd.f51.results.toList = [ResultVar.tmp 2] := by kernel_rfl

def ic72 : IC :=
  (IC.ops [{ dst := some 1, op := Op.box 65 (Operand.tmp 0), guard := none }, { dst := some 2, op := Op.assign (Operand.const (Value.string { data := { toList := [] } })), guard := none }]).seq
  ((IC.ops
        [{ dst := some 3, op := Op.fieldAddr 65 (Operand.tmp 1) 0, guard := none }, { dst := some 4, op := Op.load 30 (Operand.tmp 3), guard := none },
          { dst := some 5, op := Op.call { callee := Callee.value (Operand.func 31), args := { toList := [Operand.tmp 4] }, argTypes := { toList := [30] } }, guard := none },
          { dst := some 2, op := Op.assign (Operand.tmp 5), guard := none }]).seq
    IC.ret)
theorem ic72_eq : Tryd.f72.body.map comp = some ic72 := by kernel_rfl
theorem ic72_ok : Tryd.f72.body.map (okC Tryd.f72.ntmps) = some true := by kernel_rfl
theorem ic72_nm : (Tryd.f72.name != "runtime.NumGoroutine") = true := by kernel_rfl
@[simp] theorem ic72_n : Tryd.f72.ntmps = 6 := by kernel_rfl
@[simp] theorem ic72_r : Tryd.f72.results.toList = [ResultVar.tmp 2] := by kernel_rfl

def ic73 : IC :=
  (IC.ops [{ dst := some 2, op := Op.box 65 (Operand.tmp 0), guard := none }, { dst := some 4, op := Op.assign (Operand.const (Value.bool false)), guard := none }]).seq
  ((IC.ops
        [{ dst := some 8, op := Op.move (Operand.tmp 1), guard := none },
          { dst := some 9, op := Op.call { callee := Callee.value (Operand.func 13), args := { toList := [Operand.tmp 8] }, argTypes := { toList := [27] } }, guard := none },
          { dst := some 7, op := Op.move (Operand.tmp 9), guard := none }, { dst := some 10, op := Op.extract (Operand.tmp 7) 0, guard := none },
          { dst := some 11, op := Op.extract (Operand.tmp 7) 1, guard := none }, { dst := some 5, op := Op.alloc 30, guard := none },
          { dst := none, op := Op.store 30 (Operand.tmp 5) (Operand.tmp 10), guard := none }, { dst := some 6, op := Op.assign (Operand.tmp 11), guard := none }]).seq
    ((IC.ops
          [{ dst := some 12, op := Op.move (Operand.tmp 6), guard := none }, { dst := some 13, op := Op.move (Operand.tmp 12), guard := none },
            { dst := some 14, op := Op.fieldAddr 30 (Operand.tmp 5) 0, guard := some (some 13, true) }, { dst := some 15, op := Op.load 22 (Operand.tmp 14), guard := some (some 13, true) },
            { dst := some 16, op := Op.fieldAddr 65 (Operand.tmp 2) 0, guard := some (some 13, true) }, { dst := some 17, op := Op.fieldAddr 30 (Operand.tmp 16) 0, guard := some (some 13, true) },
            { dst := some 18, op := Op.load 22 (Operand.tmp 17), guard := some (some 13, true) },
            { dst := some 19, op := Op.binOp BinOp.eql 22 (Operand.tmp 15) (Operand.tmp 18) 22, guard := some (some 13, true) },
            { dst := some 20, op := Op.pick (Operand.tmp 13) (Operand.tmp 19) (Operand.const (Value.bool false)), guard := none },
            { dst := some 4, op := Op.assign (Operand.tmp 20), guard := none }]).seq
      IC.ret))
theorem ic73_eq : Tryd.f73.body.map comp = some ic73 := by kernel_rfl
theorem ic73_ok : Tryd.f73.body.map (okC Tryd.f73.ntmps) = some true := by kernel_rfl
theorem ic73_nm : (Tryd.f73.name != "runtime.NumGoroutine") = true := by kernel_rfl
@[simp] theorem ic73_n : Tryd.f73.ntmps = 21 := by kernel_rfl
@[simp] theorem ic73_r : Tryd.f73.results.toList = [ResultVar.tmp 4] := by kernel_rfl

def ic74 : IC :=
  (IC.ops [{ dst := some 1, op := Op.box 70 (Operand.tmp 0), guard := none }, { dst := some 2, op := Op.assign (Operand.const (Value.string { data := { toList := [] } })), guard := none }]).seq
  ((IC.opsD
        [{ dst := some 3, op := Op.fieldAddr 70 (Operand.tmp 1) 0, guard := none }, { dst := some 4, op := Op.load 9 (Operand.tmp 3), guard := none, bef := [0] },
          { dst := some 5,
            op := Op.binOp BinOp.add 9 (Operand.tmp 4) (Operand.const (Value.string { data := { toList := [58, 32] } })) 9,
            guard := none, bef := [1, 0] },
          { dst := some 6, op := Op.fieldAddr 70 (Operand.tmp 1) 1, guard := none }, { dst := some 7, op := Op.load 27 (Operand.tmp 6), guard := none, bef := [3] },
          { dst := some 8, op := Op.call { callee := Callee.invoke (Operand.tmp 7) "Error", args := { toList := [] }, argTypes := { toList := [] } }, guard := none, bef := [4, 3] },
          { dst := some 9, op := Op.binOp BinOp.add 9 (Operand.tmp 5) (Operand.tmp 8) 9, guard := none, bef := [2, 1, 0, 5, 4, 3] },
          { dst := some 2, op := Op.assign (Operand.tmp 9), guard := none, bef := [6, 2, 1, 0, 5, 4, 3] }]).seq
    IC.ret)
theorem ic74_eq : Tryd.f74.body.map comp = some ic74 := by kernel_rfl
theorem ic74_ok : Tryd.f74.body.map (okC Tryd.f74.ntmps) = some true := by kernel_rfl
theorem ic74_nm : (Tryd.f74.name != "runtime.NumGoroutine") = true := by kernel_rfl
@[simp] theorem ic74_n : Tryd.f74.ntmps = 10 := by kernel_rfl
@[simp] theorem ic74_r : Tryd.f74.results.toList = [ResultVar.tmp 2] := by kernel_rfl

def ic75 : IC :=
  (IC.ops [{ dst := some 1, op := Op.box 70 (Operand.tmp 0), guard := none }, { dst := some 2, op := Op.assign (Operand.const Value.nilIface), guard := none }]).seq
  ((IC.ops
        [{ dst := some 3, op := Op.fieldAddr 70 (Operand.tmp 1) 1, guard := none }, { dst := some 4, op := Op.load 27 (Operand.tmp 3), guard := none },
          { dst := some 2, op := Op.assign (Operand.tmp 4), guard := none }]).seq
    IC.ret)
theorem ic75_eq : Tryd.f75.body.map comp = some ic75 := by kernel_rfl
theorem ic75_ok : Tryd.f75.body.map (okC Tryd.f75.ntmps) = some true := by kernel_rfl
theorem ic75_nm : (Tryd.f75.name != "runtime.NumGoroutine") = true := by kernel_rfl
@[simp] theorem ic75_n : Tryd.f75.ntmps = 5 := by kernel_rfl
@[simp] theorem ic75_r : Tryd.f75.results.toList = [ResultVar.tmp 2] := by kernel_rfl

-- f91: no body
-- f93: no body

end Go.Proofs.YtnoigkdecjeilaaDoor
