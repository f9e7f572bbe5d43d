/- Contracts of functions of the seat's program, and what follows of them: Ca. Conditions are in each statement. -/
import Derived.Test.YtofdhldillmbdaaKa
import Derived.Test.YtofdhldillmbdaaIc
set_option linter.unusedSimpArgs false
set_option linter.unusedVariables false
namespace Go.Proofs.Ytofdhldillmbdaa
open Go Go.Proofs Go.Vm

def isB (n : Int) : Bool := decide (0 ≤ n) && decide (n < 16)
theorem ct_is (n : Int) : Ct Try.prog G0 30 [vi n] [] (vb (isB n)) [] := by
  refine callV_ic hm (fn := Try.f30) rfl ic30_eq ic30_nm ic30_ok (by simp) ?_
  simp -dsimp [ic30]
  repeat' first
    | simp -dsimp [*]
    | with_reducible refine brV.intro (fun h => ?_) (fun h => ?_)
    | (with_reducible refine exitV.cut (by simp) (by simp) (by simp) (by simp) ⟨?_, by simp⟩)
  all_goals (simp only [isB, *]; simp_all)


/-- Is a landing called? -/
def hasB (x n : Int) : Bool := isB n && (bits .and .i64 (x / 2 ^ n.toNat) 1 == 1)
theorem ct_Has (x n : Int) : Ct Try.prog G0 13 [vi x, vi n] [] (vb (hasB x n)) [] := by
  refine callV_ic hm (fn := Try.f13) rfl ic13_eq ic13_nm ic13_ok (by simp) ?_
  simp -dsimp [ic13]
  refine (CallD.pure (ct_is _) (by simp) ?_).callV
  simp -dsimp
  refine brV.intro (fun h => ?_) (fun h => ?_)
  · have hn : 0 ≤ n ∧ n < 16 := by simpa [isB] using h
    have hmin : min n.toNat (IntKind.bits .i64) = n.toNat := by simp only [IntKind.bits]; omega
    simp -dsimp [h, hmin]
    refine ⟨hn.1, exitV.cut (by simp) (by simp) (by simp) (by simp) ⟨?_, by simp⟩⟩
    simp [hasB, h]
  · simp -dsimp [h]
    refine exitV.cut (by simp) (by simp) (by simp) (by simp) ⟨?_, by simp⟩
    simp [hasB, h]
end Go.Proofs.Ytofdhldillmbdaa
