/- Contracts of functions of the seat's program, and what follows of them: Pv. Conditions are in each statement. -/
import Derived.Test.YtmjhpniegjiocaaPg
set_option linter.unusedSimpArgs false
set_option linter.unusedVariables false
namespace Go.Proofs.Ytmjhpniegjiocaa
open Go Go.Proofs Go.Vm

/-- What the document lets be, the program does. -/
theorem fine_of_R {c : Cfg} (h : wrongR c = []) : Fine c := by
  have g := good_of h
  unfold wrongR at h
  obtain ⟨a1, h⟩ := ite_nil (by simp) h
  obtain ⟨a2, h⟩ := ite_nil (by simp) h
  obtain ⟨a3, h⟩ := ite_nil (by simp) h
  obtain ⟨a4, h⟩ := ite_nil (by simp) h
  obtain ⟨a5, h⟩ := ite_nil (by simp) h
  obtain ⟨a6, h⟩ := ite_nil (by simp) h
  obtain ⟨a7, h⟩ := ite_nil (by simp) h
  obtain ⟨a8, h⟩ := ite_nil (by simp) h
  obtain ⟨a9, h⟩ := ite_nil (by simp) h
  obtain ⟨a10, h⟩ := ite_nil (by simp) h
  obtain ⟨a11, h⟩ := ite_nil (by simp) h
  obtain ⟨a12, h⟩ := ite_nil (by simp) h
  obtain ⟨a13, h⟩ := ite_nil (by simp) h
  obtain ⟨a14, h⟩ := ite_nil (by simp) h
  obtain ⟨a15, h⟩ := ite_nil (by simp) h
  simp only [Bool.not_eq_false, Bool.or_eq_true, decide_eq_true_eq, Bool.not_eq_true', not_or, Int.not_lt] at a1 a2 a3 a4 a5 a6 a7 a8 a9 a10 a11 a12 a13 a14 a15
  have sp : Sp c := ⟨g.sl, g.sh, g.fl, g.fh, g.fh2, g.ramp1, g.ramp2⟩
  have e1 := rise_eq sp
  have e2 := start_eq sp
  have s1 := g.sl; have s2 := g.sh; have s3 := g.fl; have s4 := g.fh; have s5 := g.fh2; have s6 := g.half2; have s7 := g.half1; have s8 := g.coast1; have s9 := g.vane3
  have e3 : w64 (c.half + brakeP c) = nearNeed c := by
    obtain ⟨d1, d2⟩ := coast_bd sp (x := c.fh) (by omega) (by omega)
    unfold brakeP nearNeed
    rw [coast_eq g.ramp1 g.ramp2 (by omega) (by omega), w64_id (x := c.fh + _) (by omega) (by omega), w64_id (x := c.half + c.fh) (by omega) (by omega), Int.add_assoc]
  refine ⟨by rw [levels1_eq]; exact a1, a2, ?_, a4, a5, a6, ?_, a8, ?_, ?_, ?_, ?_, a13, ?_, ?_⟩
  · simp [speedsP]; omega
  · unfold levelP; rw [e1]; exact a7
  · unfold vaneP; rw [e2, Bool.and_eq_true]
    exact ⟨a9.1, by simpa using a9.2⟩
  · unfold halfP; rw [e1]; exact a10
  · unfold nearP; rw [e3, Bool.and_eq_true]; exact ⟨a11.2, a11.1⟩
  · unfold contactsP; rw [Bool.and_eq_true]; exact a12
  · unfold startsP; rw [Bool.and_eq_true]; exact a14
  · unfold gatesP; rw [Bool.and_eq_true]; exact a15
end Go.Proofs.Ytmjhpniegjiocaa
