/- Contracts of functions of the seat's program, and what follows of them: Cg. Conditions are in each statement. -/
import Derived.Test.YtofdhldillmbdaaCf
set_option linter.unusedSimpArgs false
set_option linter.unusedVariables false
namespace Go.Proofs.Ytofdhldillmbdaa
open Go Go.Proofs Go.Vm

/-- The landings that are there. -/
def thereR (n : Nat) : Int := 2 ^ (min n 16) - 1
theorem pow17 : ∀ n : Fin 17, IntKind.wrap .i64 ((2 : Int) ^ n.val) = 2 ^ n.val ∧ IntKind.wrap .i64 ((2 : Int) ^ n.val - 1) = 2 ^ n.val - 1 := by decide +kernel
theorem ct_There (c : Cfg) : Ct Try.prog G0 27 [c.enc] [] (vi (thereR c.lv.length)) [] := by
  have hm1 : min c.lv.length 16 < 17 := by omega
  obtain ⟨p1, p2⟩ := pow17 ⟨_, hm1⟩
  simp only at p1 p2
  have e1 : (min ((c.lv.length : Nat) : Int) 16) = ((min c.lv.length 16 : Nat) : Int) := by omega
  have e2 : min (min c.lv.length 16) (IntKind.bits .i64) = min c.lv.length 16 := by simp only [IntKind.bits]; omega
  refine callV_ic hm (fn := Try.f27) rfl ic27_eq ic27_nm ic27_ok (by simp) ?_
  simp -dsimp [ic27, e1, e2, p1, p2]
  exact exitV.cut (by simp) (by simp) (by simp) (by simp) ⟨rfl, by simp⟩
def withR (x : Int) (n : Nat) (b : Int) : Int := bits .or .i64 (bits .and .i64 x 65535) (bits .and .i64 b (thereR n))
theorem ct_With (x : Int) (c : Cfg) (b : Int) : Ct Try.prog G0 26 [vi x, c.enc, vi b] [] (vi (withR x c.lv.length b)) [] := by
  refine callV_ic hm (fn := Try.f26) rfl ic26_eq ic26_nm ic26_ok (by simp) ?_
  simp -dsimp [ic26]
  refine (CallD.pure (ct_There _) (by simp) ?_).callV
  simp -dsimp
  exact exitV.cut (by simp) (by simp) (by simp) (by simp) ⟨rfl, by simp⟩
end Go.Proofs.Ytofdhldillmbdaa
