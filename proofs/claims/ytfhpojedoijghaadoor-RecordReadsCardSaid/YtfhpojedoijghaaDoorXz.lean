/- Contracts of functions of the seat's program, and what follows of them: Xz. Conditions are in each statement. -/
import Derived.Test.YtfhpojedoijghaaDoorRz
import Derived.Test.YtfhpojedoijghaaDoorXd
import Derived.Test.YtfhpojedoijghaaDoorV6
import Derived.Test.YtfhpojedoijghaaDoorTie
import Derived.Test.YtfhpojedoijghaaDoorCards
import Derived.ChangeSame
import Derived.ChangeVars
import Derived.JoinedOf
import Derived.RowKit
import Derived.RowKitTokens
import Derived.LaidLaws
import Derived.LaidHandle
import Derived.Stop.Joined
import Derived.SevenTiedAt
set_option linter.unusedSimpArgs false
set_option linter.unusedVariables false
namespace Go.Proofs.YtfhpojedoijghaaDoor
open Go Go.Proofs Go.Vm
open Go.ChangeShapes Go.WideShapes Go.ChangeAt Go.RowKit
set_option maxRecDepth 100000

theorem etG : Tryd.prog.globalNamed "errors.errorType" = some 0 := by kernel_rfl
theorem etR : (Tryd.prog.cutTypes.find? (·.1 == "internal/reflectlite.rtype")).map (·.2) = some 80 := by kernel_rfl
theorem etRow : ((List.range 122).filter fun t => Tryd.prog.rowNamed t [101, 114, 114, 111, 114]) = [29] := by kernel_rfl
theorem etSize : Tryd.prog.types.size = 122 := by kernel_rfl
abbrev laidE : List (String × DataW Unit) := [("errors.errorType", Rows.laid_errors_errorType)]
theorem handle_of_laid {W : World} (h : laidMetH Tryd.prog laidE W) : W.cell? ⟨0, 0, none⟩ = some (.iface 80 (.agg #[.pointer (some ⟨1, 29, none⟩)])) := by
  have h' : laidMet Tryd.prog [] W ∧ handlesMet Tryd.prog laidE W := h
  obtain ⟨name, u, ty, e1, e2, e3, e4, e5⟩ := h'.2 _ (List.mem_singleton.2 rfl)
  have en : name = [101, 114, 114, 111, 114] := (Option.some.inj e1).symm
  subst en
  obtain rfl := Option.some.inj (etR.symm.trans e2)
  have hm : ty ∈ (List.range 122).filter fun t => Tryd.prog.rowNamed t [101, 114, 114, 111, 114] := List.mem_filter.2 ⟨List.mem_range.2 (by rw [← etSize]; exact e3), e4⟩
  rw [etRow] at hm
  obtain rfl := List.mem_singleton.1 hm
  have hh : typeHandle Tryd.prog 29 = .pointer (some ⟨1, 29, none⟩) := by kernel_rfl
  rw [hh] at e5
  simpa using World.var?_cell etG e5 0
noncomputable def laidWorld (os : Os) : World :=
  let w0 := World.holding Tryd.prog os ⟨#[], #[], []⟩
  { w0 with heap := w0.heap.modify 0 fun
      | .cells _ t frozen => .cells #[.iface 80 (.agg #[.pointer (some ⟨1, 29, none⟩)])] t frozen
      | o => o }
theorem laidWorld_met (os : Os) (args : Array Value) : laidMetH Tryd.prog laidE ((laidWorld os).forCall (fun _ _ => 0) ⟨#[], args, []⟩).memory :=
  laidMetH_of_parts (laidMet_nil _ _) (by kernel_rfl)
theorem laidG : ∀ (w : World) (args : Array Value), laidMetH Tryd.prog laidE w → ∀ a x, G0 a = some x → w.cell? a = some x := by
  intro w args h a x hx
  unfold G0 at hx
  split at hx
  · rename_i ha
    subst ha
    rw [handle_of_laid h]; exact hx
  · cases hx
end Go.Proofs.YtfhpojedoijghaaDoor
