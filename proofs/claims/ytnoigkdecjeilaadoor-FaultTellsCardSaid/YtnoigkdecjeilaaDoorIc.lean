/- Contracts of functions of the seat's program, and what follows of them: Ic. Conditions are in each statement. -/
import Derived.Test.YtnoigkdecjeilaaDoorI1
import Derived.Test.YtnoigkdecjeilaaDoorI2
set_option linter.unusedSimpArgs false
set_option linter.unusedVariables false
namespace Go.Proofs.YtnoigkdecjeilaaDoor
end Go.Proofs.YtnoigkdecjeilaaDoor
