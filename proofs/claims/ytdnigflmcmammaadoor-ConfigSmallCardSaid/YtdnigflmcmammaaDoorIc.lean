/- Contracts of functions of the seat's program, and what follows of them: Ic. Conditions are in each statement. -/
import Derived.Test.YtdnigflmcmammaaDoorI1
set_option linter.unusedSimpArgs false
set_option linter.unusedVariables false
namespace Go.Proofs.YtdnigflmcmammaaDoor
end Go.Proofs.YtdnigflmcmammaaDoor
