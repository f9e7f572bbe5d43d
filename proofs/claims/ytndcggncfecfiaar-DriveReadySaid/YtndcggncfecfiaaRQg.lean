/- Contracts of functions of the seat's program, and what follows of them: Qg. Conditions are in each statement. -/
import Derived.Test.YtndcggncfecfiaaRPj
import Derived.Test.YtndcggncfecfiaaRQf
set_option linter.unusedSimpArgs false
set_option linter.unusedVariables false
namespace Go.Proofs.YtndcggncfecfiaaR
open Go Go.Proofs Go.Vm
open Go.ChangeShapes Go.WideShapes Go.ChangeAt Go.RowKit

theorem bounds_u16 {x : Int} (h : (Lit.int .u16 x).wf = true) : 0 ≤ x ∧ x ≤ 65535 := by
  simp [Lit.wf, IntKind.min, IntKind.max, IntKind.signed, IntKind.bits] at h
  omega
theorem agg_u16 : aggB Try.prog 23 = false := by simp [aggB, Try.underlying23]
theorem u16_of {n : Nat} {us : List V} (h : Shp Try.prog (n + 1) 23 us) : ∃ x : Int, us = [.c (.int .u16 x)] ∧ 0 ≤ x ∧ x ≤ 65535 := by
  simp only [Shp, Try.underlying23] at h
  obtain ⟨x, rfl, hw⟩ := h
  have := bounds_u16 hw
  exact ⟨x, rfl, this.1, this.2⟩
theorem agg_small : aggB Try.prog 25 = true := by simp [aggB, Try.underlying25]
theorem sm_of {us : List V} (h : Shp Try.prog 5 25 us) : ∃ s : Sm, us = s.cells ∧ s.ok := by
  simp only [Shp, ShpL, Try.underlying25, Try.underlying5, Try.underlying23, Try.underlying22, List.map_cons, List.map_nil, List.replicate] at h
  obtain ⟨_, _, rfl, ⟨landings, rfl, w_landings⟩, ⟨_, _, rfl, ⟨slow, rfl, w_slow⟩, ⟨_, _, rfl, ⟨fast, rfl, w_fast⟩, ⟨_, _, rfl, ⟨ramp, rfl, w_ramp⟩, ⟨_, _, rfl, ⟨leak, rfl, w_leak⟩, ⟨_, _, rfl, ⟨_, _, rfl, ⟨m0, rfl, w_m0⟩, ⟨_, _, rfl, ⟨m1, rfl, w_m1⟩, ⟨_, _, rfl, ⟨m2, rfl, w_m2⟩, ⟨_, _, rfl, ⟨m3, rfl, w_m3⟩, ⟨_, _, rfl, ⟨m4, rfl, w_m4⟩, rfl⟩⟩⟩⟩⟩, ⟨_, _, rfl, ⟨gap, rfl, w_gap⟩, ⟨_, _, rfl, ⟨bounce, rfl, w_bounce⟩, ⟨_, _, rfl, ⟨look, rfl, w_look⟩, ⟨_, _, rfl, ⟨star, rfl, w_star⟩, ⟨_, _, rfl, ⟨run, rfl, w_run⟩, ⟨_, _, rfl, ⟨within, rfl, w_within⟩, ⟨_, _, rfl, ⟨patience, rfl, w_patience⟩, ⟨_, _, rfl, ⟨starts, rfl, w_starts⟩, ⟨_, _, rfl, ⟨tries, rfl, w_tries⟩, ⟨_, _, rfl, ⟨opens, rfl, w_opens⟩, rfl⟩⟩⟩⟩⟩⟩⟩⟩⟩⟩⟩⟩⟩⟩⟩⟩ := h
  exact ⟨⟨landings, slow, fast, ramp, leak, m0, m1, m2, m3, m4, gap, bounce, look, star, run, within, patience, starts, tries, opens⟩, rfl, ⟨bounds_u8 w_landings, bounds_u8 w_slow, bounds_u8 w_fast, bounds_u8 w_ramp, bounds_u8 w_leak, bounds_u8 w_m0, bounds_u8 w_m1, bounds_u8 w_m2, bounds_u8 w_m3, bounds_u8 w_m4, bounds_u16 w_gap, bounds_u8 w_bounce, bounds_u8 w_look, bounds_u8 w_star, bounds_u16 w_run, bounds_u16 w_within, bounds_u16 w_patience, bounds_u8 w_starts, bounds_u8 w_tries, bounds_u16 w_opens⟩⟩
theorem agg_bool : aggB Try.prog 4 = false := by simp [aggB, Try.underlying4]
theorem bool_of {n : Nat} {us : List V} (h : Shp Try.prog (n + 1) 4 us) : ∃ x : Bool, us = [vb x] := by
  simp only [Shp, Try.underlying4] at h
  exact h
end Go.Proofs.YtndcggncfecfiaaR
