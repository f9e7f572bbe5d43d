/- Contracts of functions of the seat's program, and what follows of them: Pe. Conditions are in each statement. -/
import Derived.Test.YtmjhpniegjiocaaPd
set_option linter.unusedSimpArgs false
set_option linter.unusedVariables false
namespace Go.Proofs.Ytmjhpniegjiocaa
open Go Go.Proofs Go.Vm

def canP (k : Int) : Bool := decide (1 ≤ k) && decide (k ≤ 11)
def ofP (c : Cfg) (n : Int) : Int := if wrongP c = [] then n else 0
theorem ct_config_of (c : Cfg) (f : Nat) (n : Int) (hb : c.lv.length < top) (hb2 : c.op.length < top) (hf : Ct Try.prog G0 f [c.enc] [] (vi n) []) : Ct Try.prog G0 28 [c.enc, .fn (.func f) [] []] [] (vi (ofP c n)) [] := by
  refine callV_ic hm (fn := Try.f28) rfl ic28_eq ic28_nm ic28_ok (by simp) ?_
  simp -dsimp [ic28]
  by_cases h : wrongP c = []
  · repeat' first
      | simp -dsimp [h]
      | (with_reducible refine exitV.cut (by simp) (by simp) (by simp) (by simp) ⟨?_, by simp⟩)
      | (with_reducible refine (CallD.pure (ct_config_wrong _ hb hb2) (by simp) ?_).callV)
      | (with_reducible refine (CallD.pure (hf) (by simp) ?_).callV)
      | (with_reducible refine ordI (by kernel_rfl) ?_)
    all_goals simp [ofP, h]
  · have hh : (wrongP c != []) = true := by simpa using h
    repeat' first
      | simp -dsimp [hh]
      | (with_reducible refine exitV.cut (by simp) (by simp) (by simp) (by simp) ⟨?_, by simp⟩)
      | (with_reducible refine (CallD.pure (ct_config_wrong _ hb hb2) (by simp) ?_).callV)
      | (with_reducible refine ordI (by kernel_rfl) ?_)
    all_goals simp [ofP, h]

theorem ct_Settle (c : Cfg) (hb : c.lv.length < top) (hb2 : c.op.length < top) : Ct Try.prog G0 17 [c.enc] [] (vi (ofP c (settleP c))) [] := by
  refine callV_ic hm (fn := Try.f17) rfl ic17_eq ic17_nm ic17_ok (by simp) ?_
  simp -dsimp [ic17]
  repeat' first
    | simp -dsimp [*]
    | (with_reducible refine exitV.cut (by simp) (by simp) (by simp) (by simp) ⟨?_, by simp⟩)
    | (with_reducible refine (CallD.pure (ct_config_of c _ _ hb hb2 (ct_config_settle c)) (by simp) ?_).callV)
def backP (c : Cfg) : Int := w64 (w64 (w64 (c.star + 4) + startP c) + upP (w64 (c.vane + w64 (c.leak * startP c))) (w64 (c.sl - c.leak)))
theorem ct_Return1 (c : Cfg) : Ct Try.prog G0 30 [c.enc] [] (vi (backP c)) [] := by
  refine callV_ic hm (fn := Try.f30) rfl ic30_eq ic30_nm ic30_ok (by simp) ?_
  simp -dsimp [ic30]
  repeat' first
    | simp -dsimp [*]
    | (with_reducible refine exitV.cut (by simp) (by simp) (by simp) (by simp) ⟨?_, by simp⟩)
    | (with_reducible refine (CallD.pure (ct_config_start _) (by simp) ?_))
    | (with_reducible refine (CallD.pure (ct_ramp_Up _ _) (by simp) ?_))
    | (with_reducible refine ordI (by kernel_rfl) ?_)
  all_goals first | rfl | simp [backP]
theorem ct_Return (c : Cfg) (hb : c.lv.length < top) (hb2 : c.op.length < top) : Ct Try.prog G0 19 [c.enc] [] (vi (ofP c (backP c))) [] := by
  refine callV_ic hm (fn := Try.f19) rfl ic19_eq ic19_nm ic19_ok (by simp) ?_
  simp -dsimp [ic19]
  repeat' first
    | simp -dsimp [*]
    | (with_reducible refine exitV.cut (by simp) (by simp) (by simp) (by simp) ⟨?_, by simp⟩)
    | (with_reducible refine (CallD.pure (ct_config_of c _ _ hb hb2 (ct_Return1 c)) (by simp) ?_).callV)
end Go.Proofs.Ytmjhpniegjiocaa
