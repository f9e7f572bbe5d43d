/- Contracts of functions of the seat's program, and what follows of them: Hg. Conditions are in each statement. -/
import Derived.Test.YtnoigkdecjeilaaDoorHe
import Derived.Test.YtnoigkdecjeilaaDoorHs
set_option linter.unusedSimpArgs false
set_option linter.unusedVariables false
namespace Go.Proofs.YtnoigkdecjeilaaDoor
open Go Go.Proofs Go.Vm
open Go.ChangeShapes Go.WideShapes Go.ChangeAt Go.RowKit
set_option maxRecDepth 100000

theorem goodOf (w : World) (args : Array Value) (h : laidMetH Tryd.prog laidE w) (hs : w.ShapedOpen Tryd.checked.prog) : ∃ G, GoodG G ∧ ∀ a x, G a = some x → w.cell? a = some x :=
  ⟨fun a => w.cell? a, ⟨laidG w args h, fun _ hk =>
    cells_of_shapedOpen_ints (P := Tryd.prog) (g := 1) (t := 112) (u := 104) (k := .u64) (n := 20) hs (by decide +kernel) (zero := Array.replicate 20 (.int .u64 0)) (by kernel_rfl) (by kernel_rfl) (by kernel_rfl) (by kernel_rfl) Tryd.underlying104 hk⟩, fun _ _ h => h⟩
end Go.Proofs.YtnoigkdecjeilaaDoor
