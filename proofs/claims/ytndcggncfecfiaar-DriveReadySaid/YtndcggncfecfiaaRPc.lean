/- Contracts of functions of the seat's program, and what follows of them: Pc. Conditions are in each statement. -/
import Derived.Test.YtndcggncfecfiaaRPb
set_option linter.unusedSimpArgs false
set_option linter.unusedVariables false
namespace Go.Proofs.YtndcggncfecfiaaR
open Go Go.Proofs Go.Vm

def goodL1 (lv : List Int) (k : Nat) : Bool := (if k = 0 then decide (at0 lv 0 = 0) else decide (at0 lv (k - 1) < at0 lv k)) && decide (at0 lv k ≤ 1000000)
def levels1 (lv : List Int) : Bool := allB (goodL1 lv) lv.length && withinB lv.length 2 16
theorem levels1_eq (lv : List Int) : levels1 lv = levelsB lv := by
  rw [Bool.eq_iff_iff]
  simp only [levels1, levelsB, withinB, Bool.and_eq_true, allB_iff, decide_eq_true_eq]
  constructor
  · rintro ⟨h, h1, h2⟩
    have h0 := h 0 (by omega)
    simp [goodL1] at h0
    refine ⟨⟨⟨by omega, by omega⟩, h0.1⟩, fun k hk => ?_⟩
    have := h k hk
    by_cases hz : k = 0
    · simp [goodLv, hz]
    · simp [goodL1, hz] at this; simp [goodLv, this]
  · rintro ⟨⟨⟨h1, h2⟩, h0⟩, h⟩
    refine ⟨fun k hk => ?_, by omega, by omega⟩
    have := h k hk
    by_cases hz : k = 0
    · subst hz; simp [goodL1, h0]
    · simp [goodLv, hz] at this; simp [goodL1, hz, this]

def nearP (c : Cfg) : Bool := apartB c && withinB c.near (w64 (c.half + brakeP c)) 1000000
end Go.Proofs.YtndcggncfecfiaaR
