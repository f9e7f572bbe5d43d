/- Contracts of functions of the seat's program, and what follows of them: Yc. Conditions are in each statement. -/
import Derived.Test.YtfhpojedoijghaaDoorYb
import Derived.Test.YtfhpojedoijghaaDoorXd
set_option linter.unusedSimpArgs false
set_option linter.unusedVariables false
namespace Go.Proofs.YtfhpojedoijghaaDoor
open Go Go.Proofs Go.Vm

theorem ct_from0 : Ct Tryd.prog G0 11 [.c .nilIface, vs []] [] (vb true) [] := by
  refine callV_ic hm (fn := Tryd.f11) rfl ic11_eq ic11_nm ic11_ok (by simp) ?_
  simp -dsimp [ic11]
  repeat' first
    | simp -dsimp
    | (with_reducible refine ordI (by kernel_rfl) ?_)
  exact exitV.cut (by simp) (by simp) (by simp) (by simp) ⟨rfl, by simp⟩
set_option maxRecDepth 100000 in
theorem ct_from (p : List UInt8) (hp : p.isEmpty = false) : Ct Tryd.prog G0 11 [badV p, vs p] [] (vb true) [] := by
  have hP := ct_Path (Er.f p (Er.s 2 0)) (by simp [Er.deep])
  have hO := ct_Of (Er.f p (Er.s 2 0))
  simp only [Er.path, Er.leaf, pathV, strs, List.map_cons, List.map_nil] at hP hO
  have hv : badV p = (Er.f p (Er.s 2 0)).v := rfl
  rw [hv]
  generalize hx : (Er.f p (Er.s 2 0)).v = x at *
  have hok : ∀ q : Nat → Prop, x.ok q := fun q => by rw [← hx]; simp
  refine callV_ic hm (fn := Tryd.f11) rfl ic11_eq ic11_nm ic11_ok (by simp) ?_
  simp -dsimp [ic11]
  repeat' first
    | simp -dsimp [hp, hok]
    | (with_reducible refine (CallD.pure hP (by simp [hok]) ?_).callV)
    | (with_reducible refine (CallD.pure hO (by simp [hok]) ?_).callV)
    | (with_reducible refine ordI (by kernel_rfl) ?_)
  exact exitV.cut (by simp) (by simp) (by simp) (by simp) ⟨rfl, by simp⟩
end Go.Proofs.YtfhpojedoijghaaDoor
