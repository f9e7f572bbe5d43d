/- Contracts of functions of the seat's program, and what follows of them: Pe. Conditions are in each statement. -/
import Derived.Test.YtndcggncfecfiaaRPd
set_option linter.unusedSimpArgs false
set_option linter.unusedVariables false
namespace Go.Proofs.YtndcggncfecfiaaR
open Go Go.Proofs Go.Vm

def canP (k : Int) : Bool := decide (1 ≤ k) && decide (k ≤ 11)
def ofP (c : Cfg) (n : Int) : Int := if wrongP c = [] then n else 0
def backP (c : Cfg) : Int := w64 (w64 (w64 (c.star + 4) + startP c) + upP (w64 (c.vane + w64 (c.leak * startP c))) (w64 (c.sl - c.leak)))
end Go.Proofs.YtndcggncfecfiaaR
