/- Contracts of functions of the seat's program, and what follows of them: Pa. Conditions are in each statement. -/
import Derived.Test.YtndcggncfecfiaaRKr
set_option linter.unusedSimpArgs false
set_option linter.unusedVariables false
namespace Go.Proofs.YtndcggncfecfiaaR
open Go Go.Proofs Go.Vm

def clampP (n low high : Int) : Int := if decide (n < low) = true then low else min n high
def towP (speed target by' : Int) : Int := w64 (speed + clampP (w64 (target - speed)) (w64 (-(max by' 0))) (max by' 0))
def downP (a b : Int) : Int := if decide (b < 1) = true then 0 else if decide (a.tmod b < 0) = true then w64 (w64 (a.tdiv b) - 1) else w64 (a.tdiv b)
def upP (a b : Int) : Int := w64 (-(downP (w64 (-a)) b))
def ticksP (s b : Int) : Int := if (s == 0) = true then 0 else if decide (b < 1) = true then -1 else upP (max s (w64 (-s))) b
def wayP (s b n : Int) : Int := w64 (w64 (w64 (n - 1) * max s (w64 (-s))) - w64 ((w64 (w64 (b * w64 (n - 1)) * n)).tdiv 2))
def coastP (s b : Int) : Int := if decide (b < 1) = true then 0 else if (ticksP s b == 0) = true then 0 else if decide (s < 0) = true then w64 (-wayP s b (ticksP s b)) else wayP s b (ticksP s b)
end Go.Proofs.YtndcggncfecfiaaR
