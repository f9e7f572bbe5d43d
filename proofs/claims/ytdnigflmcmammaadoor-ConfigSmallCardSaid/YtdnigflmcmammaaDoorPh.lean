/- Contracts of functions of the seat's program, and what follows of them: Ph. Conditions are in each statement. -/
import Derived.Test.YtdnigflmcmammaaDoorV5
import Derived.Test.YtdnigflmcmammaaDoorPg
set_option linter.unusedSimpArgs false
set_option linter.unusedVariables false
namespace Go.Proofs.YtdnigflmcmammaaDoor
open Go Go.Proofs Go.Vm

theorem w0 : wrongP cfg0 = [] := by decide +kernel
theorem r0 : ofP cfg0 (riseP cfg0) = 3 := by decide +kernel
theorem s0 : ofP cfg0 (settleP cfg0) = 3 := by decide +kernel
theorem h0 : ofP cfg0 (w64 (cfg0.look + 1)) = 2 := by decide +kernel
def cfgZ : Cfg := ⟨[], [], 0, 0, 0, 0, 0, 0, 0, 0, 0, 0, 0, 0, 0, 0, 0, 0, 0, 0, 0⟩
theorem wz : wrongP cfgZ ≠ [] := by decide +kernel
theorem cn_cfgZ {e : En} {l : List V} {xs : List Value} (h : CnL e [.agg (.c (.slice none 0 0) :: .c (.slice none 0 0) :: l)] xs) : CnL e [.agg (.ro 1 [] :: .ro 1 [] :: l)] xs := by
  simp only [CnL, Cn] at h ⊢
  obtain ⟨x, xs', rfl, ⟨ys, hy, ⟨y1, r1, e1, c1, y2, r2, e2, c2, h2⟩, h3⟩, h4⟩ := h
  refine ⟨x, xs', rfl, ⟨ys, hy, ⟨y1, r1, e1, ?_, y2, r2, e2, ?_, h2⟩, h3⟩, h4⟩
  · exact ⟨none, 0, c1, Nat.le_refl _, .inl trivial⟩
  · exact ⟨none, 0, c2, Nat.le_refl _, .inl trivial⟩
@[simp] theorem isIface_err : isIface Tryd.prog 34 = true := by kernel_rfl
set_option maxRecDepth 100000 in
theorem ct_law05_awake : Ct Tryd.prog G0 4 [] [] (vb true) [] := by
  have hb : cfg0.lv.length < top := by decide +kernel
  have hb2 : cfg0.op.length < top := by decide +kernel
  have q1 := ct_Check_ok cfg0 hb hb2 w0
  have q2 := ct_Rise cfg0 hb hb2
  have q3 := ct_Settle cfg0 hb hb2
  have q4 := ct_Hold cfg0 hb hb2
  rw [r0] at q2
  rw [s0] at q3
  rw [h0] at q4
  have q5 := ct_Check_bad cfgZ (by decide) (by decide) wz
  have hL := ct_Lift0
  unfold small0 at hL
  refine callV_ic hm (fn := Tryd.f4) rfl ic4_eq ic4_nm ic4_ok (by simp) ?_
  simp -dsimp [ic4]
  repeat' first
    | simp -dsimp
    | (with_reducible refine exitV.cut (by simp) (by simp) (by simp) (by simp) ⟨?_, by simp⟩)
    | (with_reducible refine (CallD.pure (hL) (by simp) ?_).callV)
    | (with_reducible refine (CallD.pure (q1) (by simp) ?_).callV)
    | (with_reducible refine (CallD.pure (q2) (by simp) ?_).callV)
    | (with_reducible refine (CallD.pure (q3) (by simp) ?_).callV)
    | (with_reducible refine (CallD.pure (q4) (by simp) ?_).callV)
    | (with_reducible refine ordI (by kernel_rfl) ?_)
  refine CallV.args (fun e xs hx => cn_cfgZ hx) ?_
  refine (CallD.pure q5 (by simp) ?_).callV
  repeat' first
    | simp -dsimp
    | (with_reducible refine exitV.cut (by simp) (by simp) (by simp) (by simp) ⟨?_, by simp⟩)
    | (with_reducible refine (CallD.pure (hL) (by simp) ?_).callV)
    | (with_reducible refine (CallD.pure (q1) (by simp) ?_).callV)
    | (with_reducible refine (CallD.pure (q2) (by simp) ?_).callV)
    | (with_reducible refine (CallD.pure (q3) (by simp) ?_).callV)
    | (with_reducible refine (CallD.pure (q4) (by simp) ?_).callV)
    | (with_reducible refine ordI (by kernel_rfl) ?_)
end Go.Proofs.YtdnigflmcmammaaDoor
