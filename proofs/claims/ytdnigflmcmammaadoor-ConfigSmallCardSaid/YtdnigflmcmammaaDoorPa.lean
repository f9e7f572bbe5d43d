/- Contracts of functions of the seat's program, and what follows of them: Pa. Conditions are in each statement. -/
import Derived.Test.YtdnigflmcmammaaDoorKr
set_option linter.unusedSimpArgs false
set_option linter.unusedVariables false
namespace Go.Proofs.YtdnigflmcmammaaDoor
open Go Go.Proofs Go.Vm

def clampP (n low high : Int) : Int := if decide (n < low) = true then low else min n high
def towP (speed target by' : Int) : Int := w64 (speed + clampP (w64 (target - speed)) (w64 (-(max by' 0))) (max by' 0))
def downP (a b : Int) : Int := if decide (b < 1) = true then 0 else if decide (a.tmod b < 0) = true then w64 (w64 (a.tdiv b) - 1) else w64 (a.tdiv b)
theorem ct_ramp_Down (a b : Int) : Ct Tryd.prog G0 55 [vi a, vi b] [] (vi (downP a b)) [] := by
  refine callV_ic hm (fn := Tryd.f55) rfl ic55_eq ic55_nm ic55_ok (by simp) ?_
  simp -dsimp [ic55]
  repeat' first
    | simp -dsimp [*]
    | (with_reducible refine brV.intro (fun h => ?_) (fun h => ?_))
    | (refine ⟨by simp_all; omega, ?_⟩)
    | (with_reducible refine exitV.cut (by simp) (by simp) (by simp) (by simp) ⟨?_, by simp⟩)
    | (with_reducible refine ordI (by kernel_rfl) ?_)
  all_goals first | (simp only [downP, *]; simp; done) | (simp_all [downP]; done) | (simp_all [downP]; intros; omega)

def upP (a b : Int) : Int := w64 (-(downP (w64 (-a)) b))
theorem ct_ramp_Up (a b : Int) : Ct Tryd.prog G0 26 [vi a, vi b] [] (vi (upP a b)) [] := by
  refine callV_ic hm (fn := Tryd.f26) rfl ic26_eq ic26_nm ic26_ok (by simp) ?_
  simp -dsimp [ic26]
  repeat' first
    | simp -dsimp [*]
    | (with_reducible refine exitV.cut (by simp) (by simp) (by simp) (by simp) ⟨?_, by simp⟩)
    | (with_reducible refine (CallD.pure (ct_ramp_Down _ _) (by simp) ?_).callV)
  all_goals first | rfl | (simp only [upP, *]; simp; done)

def ticksP (s b : Int) : Int := if (s == 0) = true then 0 else if decide (b < 1) = true then -1 else upP (max s (w64 (-s))) b
theorem ct_ramp_Ticks (a b : Int) : Ct Tryd.prog G0 54 [vi a, vi b] [] (vi (ticksP a b)) [] := by
  refine callV_ic hm (fn := Tryd.f54) rfl ic54_eq ic54_nm ic54_ok (by simp) ?_
  simp -dsimp [ic54]
  repeat' first
    | simp -dsimp [*]
    | (with_reducible refine brV.intro (fun h => ?_) (fun h => ?_))
    | (with_reducible refine exitV.cut (by simp) (by simp) (by simp) (by simp) ⟨?_, by simp⟩)
    | (with_reducible refine (CallD.pure (ct_ramp_Up _ _) (by simp) ?_).callV)
  all_goals first | (simp only [ticksP, *]; simp; done) | (simp_all [ticksP]; done) | (simp_all [ticksP]; intros; omega)

def wayP (s b n : Int) : Int := w64 (w64 (w64 (n - 1) * max s (w64 (-s))) - w64 ((w64 (w64 (b * w64 (n - 1)) * n)).tdiv 2))
def coastP (s b : Int) : Int := if decide (b < 1) = true then 0 else if (ticksP s b == 0) = true then 0 else if decide (s < 0) = true then w64 (-wayP s b (ticksP s b)) else wayP s b (ticksP s b)
theorem ct_ramp_Coast (a b : Int) : Ct Tryd.prog G0 47 [vi a, vi b] [] (vi (coastP a b)) [] := by
  refine callV_ic hm (fn := Tryd.f47) rfl ic47_eq ic47_nm ic47_ok (by simp) ?_
  simp -dsimp [ic47]
  repeat' first
    | simp -dsimp [*]
    | (with_reducible refine brV.intro (fun h => ?_) (fun h => ?_))
    | (with_reducible refine exitV.cut (by simp) (by simp) (by simp) (by simp) ⟨?_, by simp⟩)
    | (with_reducible refine (CallD.pure (ct_ramp_Ticks _ _) (by simp) ?_).callV)
  all_goals first | (simp only [coastP, *]; simp [wayP]; done) | (simp_all [coastP]; done) | (simp_all [coastP]; intros; omega)

end Go.Proofs.YtdnigflmcmammaaDoor
