/- Contracts of functions of the seat's program, and what follows of them: Pd. Conditions are in each statement. -/
import Derived.Test.YtndcggncfecfiaaRPc
set_option linter.unusedSimpArgs false
set_option linter.unusedVariables false
namespace Go.Proofs.YtndcggncfecfiaaR
open Go Go.Proofs Go.Vm

def checks (c : Cfg) : List (List UInt8 × Bool) := [([108, 101, 118, 101, 108, 115], levels1 c.lv), ([111, 112, 101, 110], openB c), ([115, 112, 101, 101, 100, 115], speedsP c), ([114, 97, 109, 112], rampP c), ([108, 101, 97, 107], leakP c), ([115, 116, 97, 114], starP c), ([108, 101, 118, 101, 108], levelP c), ([99, 114, 101, 101, 112], creepP c), ([118, 97, 110, 101], vaneP c), ([104, 97, 108, 102], halfP c), ([110, 101, 97, 114], nearP c), ([99, 111, 110, 116, 97, 99, 116, 115], contactsP c), ([114, 117, 110], runP c), ([115, 116, 97, 114, 116, 115], startsP c), ([103, 97, 116, 101, 115], gatesP c)]
def firstBad : List (List UInt8 × Bool) → List UInt8
  | [] => []
  | (n, b) :: l => if b then firstBad l else n
def wrongP (c : Cfg) : List UInt8 := firstBad (checks c)
theorem rep15 (a b : V) : repV 15 [a, b] = [a, b, a, b, a, b, a, b, a, b, a, b, a, b, a, b, a, b, a, b, a, b, a, b, a, b, a, b, a, b] := rfl
end Go.Proofs.YtndcggncfecfiaaR
