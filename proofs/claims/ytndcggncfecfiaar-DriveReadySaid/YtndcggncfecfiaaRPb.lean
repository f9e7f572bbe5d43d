/- Contracts of functions of the seat's program, and what follows of them: Pb. Conditions are in each statement. -/
import Derived.Test.YtndcggncfecfiaaRPa
import Derived.Test.YtndcggncfecfiaaRKw
set_option linter.unusedSimpArgs false
set_option linter.unusedVariables false
namespace Go.Proofs.YtndcggncfecfiaaR
open Go Go.Proofs Go.Vm

def riseP (c : Cfg) : Int := w64 (c.sh + coastP c.sh c.ramp)
def brakeP (c : Cfg) : Int := w64 (c.fh + coastP c.fh c.ramp)
def settleP (c : Cfg) : Int := w64 (ticksP c.fh c.ramp + 1)
def startP (c : Cfg) : Int := ticksP c.sh c.ramp
def speedsP (c : Cfg) : Bool := decide (1 ≤ c.sl) && decide (c.sl ≤ c.sh) && decide (c.sh ≤ c.fl) && decide (c.fl ≤ c.fh) && decide (c.fh ≤ 1000)
def rampP (c : Cfg) : Bool := withinB c.ramp 1 1000
def leakP (c : Cfg) : Bool := withinB c.leak 0 (w64 (c.sl - 1))
def starP (c : Cfg) : Bool := withinB c.star 0 500
def levelP (c : Cfg) : Bool := withinB c.level (riseP c) 1000000
def creepP (c : Cfg) : Bool := withinB c.creep c.level 1000000
def vaneP (c : Cfg) : Bool := withinB c.vane (w64 (c.creep + w64 (c.leak * w64 (w64 (c.star + 4) + startP c)))) 1000000 && decide (c.fh ≤ w64 (2 * c.vane))
def halfP (c : Cfg) : Bool := withinB c.half (w64 (c.vane + riseP c)) 1000000
def contactsP (c : Cfg) : Bool := withinB c.bounce 0 100 && withinB c.look (w64 (c.bounce + 1)) 200
def runP (c : Cfg) : Bool := withinB c.run 1 1000000
def startsP (c : Cfg) : Bool := withinB c.starts 1 100 && withinB c.within 1 1000000
def gatesP (c : Cfg) : Bool := withinB c.patience 1 1000000 && withinB c.tries 1 20
end Go.Proofs.YtndcggncfecfiaaR
