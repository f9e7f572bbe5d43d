/- Contracts of functions of the seat's program, and what follows of them: Kh. Conditions are in each statement. -/
import Derived.Test.YtfpkodajcpcabaaKg
set_option linter.unusedSimpArgs false
set_option linter.unusedVariables false
namespace Go.Proofs.Ytfpkodajcpcabaa
open Go Go.Proofs Go.Vm

@[simp] theorem c0_lv : cfg0.lv = [0, 21] := rfl
@[simp] theorem c0_half : cfg0.half = 6 := rfl
@[simp] theorem c0_at : at0 [0, 21] 1 = 21 := rfl
theorem c0_zone : zone cfg0 27 = (1, true) := by decide +kernel
theorem c0_near : (near [0, 21] 21 2).at' = 1 := by decide +kernel
theorem c0_sense : sense cfg0 20 = ⟨true, 1, false, true, false, true, true, false⟩ := by
  have h : (sense cfg0 20).z = true ∧ (sense cfg0 20).n = 1 ∧ (sense cfg0 20).deep = false ∧ (sense cfg0 20).low = true ∧ (sense cfg0 20).high = false ∧ (sense cfg0 20).near = true ∧ (sense cfg0 20).top = true ∧ (sense cfg0 20).bot = false := by decide +kernel
  obtain ⟨a1, a2, a3, a4, a5, a6, a7, a8⟩ := h
  cases h : sense cfg0 20
  simp_all
set_option maxRecDepth 100000 in
theorem ct_law06_awake : Ct Try.prog G0 9 [] [] (vb true) [] := by
  refine callV_ic hm (fn := Try.f9) rfl ic9_eq ic9_nm ic9_ok (by simp) ?_
  simp -dsimp [ic9]
  have hb : cfg0.lv.length < top := by simp [top]
  have hp : 0 < cfg0.lv.length := by simp
  have hL := ct_Lift0
  unfold small0 at hL
  have e1 := c0_zone
  have e2 := c0_near
  have e3 := c0_sense
  repeat' first
    | simp -dsimp [w64_of, e1, e2, e3, Fr.cells]
    | with_reducible refine brV.intro (fun h => ?_) (fun h => ?_)
    | (with_reducible refine exitV.cut (by simp) (by simp) (by simp) (by simp) ⟨?_, by simp⟩)
    | (with_reducible refine (CallD.pure hL (by simp) ?_).callV)
    | (with_reducible refine (CallD.pure (ct_shaft_Zone _ _ hb) (by simp) ?_).callV)
    | (with_reducible refine (CallD.pure (ct_shaft_Nearest _ _ hb) (by simp) ?_).callV)
    | (with_reducible refine (CallD.pure (ct_shaft_Sense _ _ hb hp) (by simp) ?_).callV)
    | (with_reducible refine CallD.pure (ct_shaft_Zone _ _ hb) (by simp) ?_)
    | (with_reducible refine CallD.pure (ct_shaft_Nearest _ _ hb) (by simp) ?_)
    | (with_reducible refine CallD.pure (ct_shaft_Sense _ _ hb hp) (by simp) ?_)
    | (with_reducible refine ordI (by kernel_rfl) ?_)

def fineB (c : Cfg) (x : Int) : Bool := nearC c && (wrongR c).isEmpty && near31 x
theorem ct_law06_fine (c : Cfg) (x : Int) (hb : c.op.length < top) : Ct Try.prog G0 10 [c.enc, vi x] [] (vb (fineB c x)) [] := by
  refine callV_ic hm (fn := Try.f10) rfl ic10_eq ic10_nm ic10_ok (by simp) ?_
  simp -dsimp [ic10]
  repeat' first
    | simp -dsimp [*]
    | with_reducible refine brV.intro (fun h => ?_) (fun h => ?_)
    | (with_reducible refine exitV.cut (by simp) (by simp) (by simp) (by simp) ⟨?_, by simp⟩)
    | (with_reducible refine (CallD.pure (ct_ref05_Near _) (by simp) ?_).callV)
    | (with_reducible refine (CallD.pure (ct_ref05_Wrong _ hb) (by simp) ?_).callV)
    | (with_reducible refine (CallD.pure (ct_ref01_Near _) (by simp) ?_).callV)
    | (with_reducible refine CallD.pure (ct_ref05_Near _) (by simp) ?_)
    | (with_reducible refine CallD.pure (ct_ref05_Wrong _ hb) (by simp) ?_)
    | (with_reducible refine CallD.pure (ct_ref01_Near _) (by simp) ?_)
    | (with_reducible refine ordI (by kernel_rfl) ?_)
  all_goals simp [fineB, *]

end Go.Proofs.Ytfpkodajcpcabaa
