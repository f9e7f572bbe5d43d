/- Contracts of functions of the seat's program, and what follows of them: Pe. Conditions are in each statement. -/
import Derived.Test.YtdnigflmcmammaaPd
set_option linter.unusedSimpArgs false
set_option linter.unusedVariables false
namespace Go.Proofs.Ytdnigflmcmammaa
open Go Go.Proofs Go.Vm

def canP (k : Int) : Bool := decide (1 ≤ k) && decide (k ≤ 11)
theorem ct_fault_can (k : Int) : Ct Try.prog G0 47 [vi k] [] (vb (canP k)) [] := by
  refine callV_ic hm (fn := Try.f47) rfl ic47_eq ic47_nm ic47_ok (by simp) ?_
  simp -dsimp [ic47]
  repeat' first
    | simp -dsimp [*]
    | (with_reducible refine brV.intro (fun h => ?_) (fun h => ?_))
    | (with_reducible refine exitV.cut (by simp) (by simp) (by simp) (by simp) ⟨?_, by simp⟩)
    | (with_reducible refine ordI (by kernel_rfl) ?_)
  all_goals first | rfl | (simp only [canP, *]; simp; done) | (simp_all [canP]; done) | (simp_all [canP]; intros; omega)

abbrev flt (k t : Int) : V := .iface 59 (.agg [vi k, vi t])
theorem ct_fault_New (k t : Int) (h : canP k = true) : Ct Try.prog G0 20 [vi k, vi t] [] (flt k (max 0 (min t 1099511627775))) [] := by
  refine callV_ic hm (fn := Try.f20) rfl ic20_eq ic20_nm ic20_ok (by simp) ?_
  simp -dsimp [ic20]
  repeat' first
    | simp -dsimp [*]
    | (with_reducible refine exitV.cut (by simp) (by simp) (by simp) (by simp) ⟨?_, by simp⟩)
    | (with_reducible refine (CallD.pure (ct_fault_can _) (by simp) ?_).callV)
    | (with_reducible refine ordI (by kernel_rfl) ?_)
  exact ⟨by kernel_rfl, exitV.cut (by simp) (by simp) (by simp) (by simp) ⟨rfl, by simp⟩⟩

theorem ct_New0 : Ct Try.prog G0 20 [vi 1, vi 0] [] (flt 1 0) [] := ct_fault_New 1 0 (by decide)
abbrev wrapV (p : List UInt8) (e : V) : V := .iface 54 (.agg [vs p, e])
theorem ct_fault_Wrap (p : List UInt8) (k t : Int) : Ct Try.prog G0 19 [vs p, flt k t] [] (wrapV p (flt k t)) [] := by
  refine callV_ic hm (fn := Try.f19) rfl ic19_eq ic19_nm ic19_ok (by simp) ?_
  simp -dsimp [ic19]
  repeat' first
    | simp -dsimp [*]
    | (with_reducible refine exitV.cut (by simp) (by simp) (by simp) (by simp) ⟨?_, by simp⟩)
    | (with_reducible refine ordI (by kernel_rfl) ?_)
  exact ⟨by kernel_rfl, by kernel_rfl, exitV.cut (by simp) (by simp) (by simp) (by simp) ⟨rfl, by simp⟩⟩

theorem ct_Check_ok (c : Cfg) (hb : c.lv.length < top) (hb2 : c.op.length < top) (h : wrongP c = []) : Ct Try.prog G0 9 [c.enc] [] (.c .nilIface) [] := by
  refine callV_ic hm (fn := Try.f9) rfl ic9_eq ic9_nm ic9_ok (by simp) ?_
  simp -dsimp [ic9]
  repeat' first
    | simp -dsimp [*]
    | (with_reducible refine exitV.cut (by simp) (by simp) (by simp) (by simp) ⟨?_, by simp⟩)
    | (with_reducible refine (CallD.pure (ct_config_wrong _ hb hb2) (by simp) ?_).callV)
    | (with_reducible refine ordI (by kernel_rfl) ?_)
theorem ct_Check_bad (c : Cfg) (hb : c.lv.length < top) (hb2 : c.op.length < top) (h : wrongP c ≠ []) : Ct Try.prog G0 9 [c.enc] [] (wrapV (wrongP c) (flt 1 0)) [] := by
  have hh : (wrongP c != []) = true := by simpa using h
  refine callV_ic hm (fn := Try.f9) rfl ic9_eq ic9_nm ic9_ok (by simp) ?_
  simp -dsimp [ic9]
  repeat' first
    | simp -dsimp [hh]
    | (with_reducible refine exitV.cut (by simp) (by simp) (by simp) (by simp) ⟨?_, by simp⟩)
    | (with_reducible refine (CallD.pure (ct_config_wrong _ hb hb2) (by simp) ?_).callV)
    | (with_reducible refine (CallD.pure (ct_New0) (by simp) ?_).callV)
    | (with_reducible refine (CallD.pure (ct_fault_Wrap _ _ _) (by simp) ?_).callV)
    | (with_reducible refine ordI (by kernel_rfl) ?_)

def ofP (c : Cfg) (n : Int) : Int := if wrongP c = [] then n else 0
theorem ct_config_of (c : Cfg) (f : Nat) (n : Int) (hb : c.lv.length < top) (hb2 : c.op.length < top) (hf : Ct Try.prog G0 f [c.enc] [] (vi n) []) : Ct Try.prog G0 21 [c.enc, .fn (.func f) [] []] [] (vi (ofP c n)) [] := by
  refine callV_ic hm (fn := Try.f21) rfl ic21_eq ic21_nm ic21_ok (by simp) ?_
  simp -dsimp [ic21]
  by_cases h : wrongP c = []
  · repeat' first
      | simp -dsimp [h]
      | (with_reducible refine exitV.cut (by simp) (by simp) (by simp) (by simp) ⟨?_, by simp⟩)
      | (with_reducible refine (CallD.pure (ct_config_wrong _ hb hb2) (by simp) ?_).callV)
      | (with_reducible refine (CallD.pure (hf) (by simp) ?_).callV)
      | (with_reducible refine ordI (by kernel_rfl) ?_)
    all_goals simp [ofP, h]
  · have hh : (wrongP c != []) = true := by simpa using h
    repeat' first
      | simp -dsimp [hh]
      | (with_reducible refine exitV.cut (by simp) (by simp) (by simp) (by simp) ⟨?_, by simp⟩)
      | (with_reducible refine (CallD.pure (ct_config_wrong _ hb hb2) (by simp) ?_).callV)
      | (with_reducible refine ordI (by kernel_rfl) ?_)
    all_goals simp [ofP, h]

theorem ct_Rise (c : Cfg) (hb : c.lv.length < top) (hb2 : c.op.length < top) : Ct Try.prog G0 10 [c.enc] [] (vi (ofP c (riseP c))) [] := by
  refine callV_ic hm (fn := Try.f10) rfl ic10_eq ic10_nm ic10_ok (by simp) ?_
  simp -dsimp [ic10]
  repeat' first
    | simp -dsimp [*]
    | (with_reducible refine exitV.cut (by simp) (by simp) (by simp) (by simp) ⟨?_, by simp⟩)
    | (with_reducible refine (CallD.pure (ct_config_of c _ _ hb hb2 (ct_config_rise c)) (by simp) ?_).callV)
theorem ct_Settle (c : Cfg) (hb : c.lv.length < top) (hb2 : c.op.length < top) : Ct Try.prog G0 15 [c.enc] [] (vi (ofP c (settleP c))) [] := by
  refine callV_ic hm (fn := Try.f15) rfl ic15_eq ic15_nm ic15_ok (by simp) ?_
  simp -dsimp [ic15]
  repeat' first
    | simp -dsimp [*]
    | (with_reducible refine exitV.cut (by simp) (by simp) (by simp) (by simp) ⟨?_, by simp⟩)
    | (with_reducible refine (CallD.pure (ct_config_of c _ _ hb hb2 (ct_config_settle c)) (by simp) ?_).callV)
theorem ct_Brake (c : Cfg) (hb : c.lv.length < top) (hb2 : c.op.length < top) : Ct Try.prog G0 11 [c.enc] [] (vi (ofP c (brakeP c))) [] := by
  refine callV_ic hm (fn := Try.f11) rfl ic11_eq ic11_nm ic11_ok (by simp) ?_
  simp -dsimp [ic11]
  repeat' first
    | simp -dsimp [*]
    | (with_reducible refine exitV.cut (by simp) (by simp) (by simp) (by simp) ⟨?_, by simp⟩)
    | (with_reducible refine (CallD.pure (ct_config_of c _ _ hb hb2 (ct_config_brake c)) (by simp) ?_).callV)
theorem ct_Hold1 (c : Cfg) : Ct Try.prog G0 30 [c.enc] [] (vi (w64 (c.look + 1))) [] := by
  refine callV_ic hm (fn := Try.f30) rfl ic30_eq ic30_nm ic30_ok (by simp) ?_
  simp -dsimp [ic30]
  repeat' first
    | simp -dsimp [*]
    | (with_reducible refine exitV.cut (by simp) (by simp) (by simp) (by simp) ⟨?_, by simp⟩)
    | (with_reducible refine ordI (by kernel_rfl) ?_)
theorem ct_Hold (c : Cfg) (hb : c.lv.length < top) (hb2 : c.op.length < top) : Ct Try.prog G0 17 [c.enc] [] (vi (ofP c (w64 (c.look + 1)))) [] := by
  refine callV_ic hm (fn := Try.f17) rfl ic17_eq ic17_nm ic17_ok (by simp) ?_
  simp -dsimp [ic17]
  repeat' first
    | simp -dsimp [*]
    | (with_reducible refine exitV.cut (by simp) (by simp) (by simp) (by simp) ⟨?_, by simp⟩)
    | (with_reducible refine (CallD.pure (ct_config_of c _ _ hb hb2 (ct_Hold1 c)) (by simp) ?_).callV)
def backP (c : Cfg) : Int := w64 (w64 (w64 (c.star + 4) + startP c) + upP (w64 (c.vane + w64 (c.leak * startP c))) (w64 (c.sl - c.leak)))
theorem ct_Return1 (c : Cfg) : Ct Try.prog G0 26 [c.enc] [] (vi (backP c)) [] := by
  refine callV_ic hm (fn := Try.f26) rfl ic26_eq ic26_nm ic26_ok (by simp) ?_
  simp -dsimp [ic26]
  repeat' first
    | simp -dsimp [*]
    | (with_reducible refine exitV.cut (by simp) (by simp) (by simp) (by simp) ⟨?_, by simp⟩)
    | (with_reducible refine (CallD.pure (ct_config_start _) (by simp) ?_))
    | (with_reducible refine (CallD.pure (ct_ramp_Up _ _) (by simp) ?_))
    | (with_reducible refine ordI (by kernel_rfl) ?_)
  all_goals first | rfl | simp [backP]
theorem ct_Return (c : Cfg) (hb : c.lv.length < top) (hb2 : c.op.length < top) : Ct Try.prog G0 13 [c.enc] [] (vi (ofP c (backP c))) [] := by
  refine callV_ic hm (fn := Try.f13) rfl ic13_eq ic13_nm ic13_ok (by simp) ?_
  simp -dsimp [ic13]
  repeat' first
    | simp -dsimp [*]
    | (with_reducible refine exitV.cut (by simp) (by simp) (by simp) (by simp) ⟨?_, by simp⟩)
    | (with_reducible refine (CallD.pure (ct_config_of c _ _ hb hb2 (ct_Return1 c)) (by simp) ?_).callV)
end Go.Proofs.Ytdnigflmcmammaa
