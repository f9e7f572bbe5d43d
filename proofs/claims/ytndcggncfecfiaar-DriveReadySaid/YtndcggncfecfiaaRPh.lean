/- Contracts of functions of the seat's program, and what follows of them: Ph. Conditions are in each statement. -/
import Derived.Test.YtndcggncfecfiaaRV5
import Derived.Test.YtndcggncfecfiaaRPg
set_option linter.unusedSimpArgs false
set_option linter.unusedVariables false
namespace Go.Proofs.YtndcggncfecfiaaR
open Go Go.Proofs Go.Vm

theorem w0 : wrongP cfg0 = [] := by decide +kernel
theorem r0 : ofP cfg0 (riseP cfg0) = 3 := by decide +kernel
theorem s0 : ofP cfg0 (settleP cfg0) = 3 := by decide +kernel
theorem h0 : ofP cfg0 (w64 (cfg0.look + 1)) = 2 := by decide +kernel
def cfgZ : Cfg := ⟨[], [], 0, 0, 0, 0, 0, 0, 0, 0, 0, 0, 0, 0, 0, 0, 0, 0, 0, 0, 0⟩
theorem wz : wrongP cfgZ ≠ [] := by decide +kernel
theorem cn_cfgZ {e : En} {l : List V} {xs : List Value} (h : CnL e [.agg (.c (.slice none 0 0) :: .c (.slice none 0 0) :: l)] xs) : CnL e [.agg (.ro 1 [] :: .ro 1 [] :: l)] xs := by
  simp only [CnL, Cn] at h ⊢
  obtain ⟨x, xs', rfl, ⟨ys, hy, ⟨y1, r1, e1, c1, y2, r2, e2, c2, h2⟩, h3⟩, h4⟩ := h
  refine ⟨x, xs', rfl, ⟨ys, hy, ⟨y1, r1, e1, ?_, y2, r2, e2, ?_, h2⟩, h3⟩, h4⟩
  · exact ⟨none, 0, c1, Nat.le_refl _, .inl trivial⟩
  · exact ⟨none, 0, c2, Nat.le_refl _, .inl trivial⟩
end Go.Proofs.YtndcggncfecfiaaR
