/- Contracts of functions of the seat's program, and what follows of them: Gz. Conditions are in each statement. -/
import Derived.Test.YtdnigflmcmammaaDoorPj
import Derived.Test.YtdnigflmcmammaaDoorPr
import Derived.Test.YtdnigflmcmammaaDoorXd
import Derived.Test.YtdnigflmcmammaaDoorV6
import Derived.Test.YtdnigflmcmammaaDoorTie
import Derived.Test.YtdnigflmcmammaaDoorCards
import Derived.ChangeSame
import Derived.ChangeVars
import Derived.JoinedOf
import Derived.RowKit
import Derived.RowKitTokens
import Derived.LaidLaws
import Derived.LaidHandle
import Derived.Stop.Joined
import Derived.SevenTiedAt
set_option linter.unusedSimpArgs false
set_option linter.unusedVariables false
namespace Go.Proofs.YtdnigflmcmammaaDoor
open Go Go.Proofs Go.Vm
open Go.ChangeShapes Go.WideShapes Go.ChangeAt Go.RowKit
set_option maxRecDepth 100000

theorem bounds_u16 {x : Int} (h : (Lit.int .u16 x).wf = true) : 0 ≤ x ∧ x ≤ 65535 := by
  simp [Lit.wf, IntKind.min, IntKind.max, IntKind.signed, IntKind.bits] at h
  omega
theorem agg_u16 : aggB Tryd.prog 23 = false := by simp [aggB, Tryd.underlying23]
theorem u16_of {n : Nat} {us : List V} (h : Shp Tryd.prog (n + 1) 23 us) : ∃ x : Int, us = [.c (.int .u16 x)] ∧ 0 ≤ x ∧ x ≤ 65535 := by
  simp only [Shp, Tryd.underlying23] at h
  obtain ⟨x, rfl, hw⟩ := h
  have := bounds_u16 hw
  exact ⟨x, rfl, this.1, this.2⟩
theorem agg_small : aggB Tryd.prog 25 = true := by simp [aggB, Tryd.underlying25]
theorem sm_of {us : List V} (h : Shp Tryd.prog 5 25 us) : ∃ s : Sm, us = s.cells ∧ s.ok := by
  simp only [Shp, ShpL, Tryd.underlying25, Tryd.underlying5, Tryd.underlying23, Tryd.underlying22, List.map_cons, List.map_nil, List.replicate] at h
  obtain ⟨_, _, rfl, ⟨landings, rfl, w_landings⟩, ⟨_, _, rfl, ⟨slow, rfl, w_slow⟩, ⟨_, _, rfl, ⟨fast, rfl, w_fast⟩, ⟨_, _, rfl, ⟨ramp, rfl, w_ramp⟩, ⟨_, _, rfl, ⟨leak, rfl, w_leak⟩, ⟨_, _, rfl, ⟨_, _, rfl, ⟨m0, rfl, w_m0⟩, ⟨_, _, rfl, ⟨m1, rfl, w_m1⟩, ⟨_, _, rfl, ⟨m2, rfl, w_m2⟩, ⟨_, _, rfl, ⟨m3, rfl, w_m3⟩, ⟨_, _, rfl, ⟨m4, rfl, w_m4⟩, rfl⟩⟩⟩⟩⟩, ⟨_, _, rfl, ⟨gap, rfl, w_gap⟩, ⟨_, _, rfl, ⟨bounce, rfl, w_bounce⟩, ⟨_, _, rfl, ⟨look, rfl, w_look⟩, ⟨_, _, rfl, ⟨star, rfl, w_star⟩, ⟨_, _, rfl, ⟨run, rfl, w_run⟩, ⟨_, _, rfl, ⟨within, rfl, w_within⟩, ⟨_, _, rfl, ⟨patience, rfl, w_patience⟩, ⟨_, _, rfl, ⟨starts, rfl, w_starts⟩, ⟨_, _, rfl, ⟨tries, rfl, w_tries⟩, ⟨_, _, rfl, ⟨opens, rfl, w_opens⟩, rfl⟩⟩⟩⟩⟩⟩⟩⟩⟩⟩⟩⟩⟩⟩⟩⟩ := h
  exact ⟨⟨landings, slow, fast, ramp, leak, m0, m1, m2, m3, m4, gap, bounce, look, star, run, within, patience, starts, tries, opens⟩, rfl, ⟨bounds_u8 w_landings, bounds_u8 w_slow, bounds_u8 w_fast, bounds_u8 w_ramp, bounds_u8 w_leak, bounds_u8 w_m0, bounds_u8 w_m1, bounds_u8 w_m2, bounds_u8 w_m3, bounds_u8 w_m4, bounds_u16 w_gap, bounds_u8 w_bounce, bounds_u8 w_look, bounds_u8 w_star, bounds_u16 w_run, bounds_u16 w_within, bounds_u16 w_patience, bounds_u8 w_starts, bounds_u8 w_tries, bounds_u16 w_opens⟩⟩
theorem etG : Tryd.prog.globalNamed "errors.errorType" = some 0 := by kernel_rfl
theorem etR : (Tryd.prog.cutTypes.find? (·.1 == "internal/reflectlite.rtype")).map (·.2) = some 79 := by kernel_rfl
theorem etRow : ((List.range 126).filter fun t => Tryd.prog.rowNamed t [101, 114, 114, 111, 114]) = [34] := by kernel_rfl
theorem etSize : Tryd.prog.types.size = 126 := by kernel_rfl
abbrev laidE : List (String × DataW Unit) := [("errors.errorType", Rows.laid_errors_errorType)]
theorem handle_of_laid {W : World} (h : laidMetH Tryd.prog laidE W) : W.cell? ⟨0, 0, none⟩ = some (.iface 79 (.agg #[.pointer (some ⟨1, 34, none⟩)])) := by
  have h' : laidMet Tryd.prog [] W ∧ handlesMet Tryd.prog laidE W := h
  obtain ⟨name, u, ty, e1, e2, e3, e4, e5⟩ := h'.2 _ (List.mem_singleton.2 rfl)
  have en : name = [101, 114, 114, 111, 114] := (Option.some.inj e1).symm
  subst en
  obtain rfl := Option.some.inj (etR.symm.trans e2)
  have hm : ty ∈ (List.range 126).filter fun t => Tryd.prog.rowNamed t [101, 114, 114, 111, 114] := List.mem_filter.2 ⟨List.mem_range.2 (by rw [← etSize]; exact e3), e4⟩
  rw [etRow] at hm
  obtain rfl := List.mem_singleton.1 hm
  have hh : typeHandle Tryd.prog 34 = .pointer (some ⟨1, 34, none⟩) := by kernel_rfl
  rw [hh] at e5
  simpa using World.var?_cell etG e5 0
noncomputable def laidWorld (os : Os) : World :=
  let w0 := World.holding Tryd.prog os ⟨#[], #[], []⟩
  { w0 with heap := w0.heap.modify 0 fun
      | .cells _ t frozen => .cells #[.iface 79 (.agg #[.pointer (some ⟨1, 34, none⟩)])] t frozen
      | o => o }
theorem laidWorld_met (os : Os) (args : Array Value) : laidMetH Tryd.prog laidE ((laidWorld os).forCall (fun _ _ => 0) ⟨#[], args, []⟩).memory :=
  laidMetH_of_parts (laidMet_nil _ _) (by kernel_rfl)
theorem laidG : ∀ (w : World) (args : Array Value), laidMetH Tryd.prog laidE w → ∀ a x, G0 a = some x → w.cell? a = some x := by
  intro w args h a x hx
  unfold G0 at hx
  split at hx
  · rename_i ha
    subst ha
    rw [handle_of_laid h]; exact hx
  · cases hx
end Go.Proofs.YtdnigflmcmammaaDoor
