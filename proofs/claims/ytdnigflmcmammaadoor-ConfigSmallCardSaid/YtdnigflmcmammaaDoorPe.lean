/- Contracts of functions of the seat's program, and what follows of them: Pe. Conditions are in each statement. -/
import Derived.Test.YtdnigflmcmammaaDoorPd
set_option linter.unusedSimpArgs false
set_option linter.unusedVariables false
namespace Go.Proofs.YtdnigflmcmammaaDoor
open Go Go.Proofs Go.Vm

def canP (k : Int) : Bool := decide (1 ≤ k) && decide (k ≤ 11)
theorem ct_fault_can (k : Int) : Ct Tryd.prog G0 46 [vi k] [] (vb (canP k)) [] := by
  refine callV_ic hm (fn := Tryd.f46) rfl ic46_eq ic46_nm ic46_ok (by simp) ?_
  simp -dsimp [ic46]
  repeat' first
    | simp -dsimp [*]
    | (with_reducible refine brV.intro (fun h => ?_) (fun h => ?_))
    | (with_reducible refine exitV.cut (by simp) (by simp) (by simp) (by simp) ⟨?_, by simp⟩)
    | (with_reducible refine ordI (by kernel_rfl) ?_)
  all_goals first | rfl | (simp only [canP, *]; simp; done) | (simp_all [canP]; done) | (simp_all [canP]; intros; omega)

abbrev flt (k t : Int) : V := .iface 52 (.agg [vi k, vi t])
theorem ct_fault_New (k t : Int) (h : canP k = true) : Ct Tryd.prog G0 18 [vi k, vi t] [] (flt k (max 0 (min t 1099511627775))) [] := by
  refine callV_ic hm (fn := Tryd.f18) rfl ic18_eq ic18_nm ic18_ok (by simp) ?_
  simp -dsimp [ic18]
  repeat' first
    | simp -dsimp [*]
    | (with_reducible refine exitV.cut (by simp) (by simp) (by simp) (by simp) ⟨?_, by simp⟩)
    | (with_reducible refine (CallD.pure (ct_fault_can _) (by simp) ?_).callV)
    | (with_reducible refine ordI (by kernel_rfl) ?_)
  exact ⟨by kernel_rfl, exitV.cut (by simp) (by simp) (by simp) (by simp) ⟨rfl, by simp⟩⟩

theorem ct_New0 : Ct Tryd.prog G0 18 [vi 1, vi 0] [] (flt 1 0) [] := ct_fault_New 1 0 (by decide)
abbrev wrapV (p : List UInt8) (e : V) : V := .iface 54 (.agg [vs p, e])
theorem ct_fault_Wrap (p : List UInt8) (k t : Int) : Ct Tryd.prog G0 17 [vs p, flt k t] [] (wrapV p (flt k t)) [] := by
  refine callV_ic hm (fn := Tryd.f17) rfl ic17_eq ic17_nm ic17_ok (by simp) ?_
  simp -dsimp [ic17]
  repeat' first
    | simp -dsimp [*]
    | (with_reducible refine exitV.cut (by simp) (by simp) (by simp) (by simp) ⟨?_, by simp⟩)
    | (with_reducible refine ordI (by kernel_rfl) ?_)
  exact ⟨by kernel_rfl, by kernel_rfl, exitV.cut (by simp) (by simp) (by simp) (by simp) ⟨rfl, by simp⟩⟩

theorem ct_Check_ok (c : Cfg) (hb : c.lv.length < top) (hb2 : c.op.length < top) (h : wrongP c = []) : Ct Tryd.prog G0 6 [c.enc] [] (.c .nilIface) [] := by
  refine callV_ic hm (fn := Tryd.f6) rfl ic6_eq ic6_nm ic6_ok (by simp) ?_
  simp -dsimp [ic6]
  repeat' first
    | simp -dsimp [*]
    | (with_reducible refine exitV.cut (by simp) (by simp) (by simp) (by simp) ⟨?_, by simp⟩)
    | (with_reducible refine (CallD.pure (ct_config_wrong _ hb hb2) (by simp) ?_).callV)
    | (with_reducible refine ordI (by kernel_rfl) ?_)
theorem ct_Check_bad (c : Cfg) (hb : c.lv.length < top) (hb2 : c.op.length < top) (h : wrongP c ≠ []) : Ct Tryd.prog G0 6 [c.enc] [] (wrapV (wrongP c) (flt 1 0)) [] := by
  have hh : (wrongP c != []) = true := by simpa using h
  refine callV_ic hm (fn := Tryd.f6) rfl ic6_eq ic6_nm ic6_ok (by simp) ?_
  simp -dsimp [ic6]
  repeat' first
    | simp -dsimp [hh]
    | (with_reducible refine exitV.cut (by simp) (by simp) (by simp) (by simp) ⟨?_, by simp⟩)
    | (with_reducible refine (CallD.pure (ct_config_wrong _ hb hb2) (by simp) ?_).callV)
    | (with_reducible refine (CallD.pure (ct_New0) (by simp) ?_).callV)
    | (with_reducible refine (CallD.pure (ct_fault_Wrap _ _ _) (by simp) ?_).callV)
    | (with_reducible refine ordI (by kernel_rfl) ?_)

def ofP (c : Cfg) (n : Int) : Int := if wrongP c = [] then n else 0
theorem ct_config_of (c : Cfg) (f : Nat) (n : Int) (hb : c.lv.length < top) (hb2 : c.op.length < top) (hf : Ct Tryd.prog G0 f [c.enc] [] (vi n) []) : Ct Tryd.prog G0 19 [c.enc, .fn (.func f) [] []] [] (vi (ofP c n)) [] := by
  have he : enters Tryd.prog f = true := hf.1
  refine callV_ic hm (fn := Tryd.f19) rfl ic19_eq ic19_nm ic19_ok (by simp) ?_
  simp -dsimp [ic19]
  by_cases h : wrongP c = []
  · repeat' first
      | simp -dsimp [h, he]
      | (with_reducible refine exitV.cut (by simp) (by simp) (by simp) (by simp) ⟨?_, by simp⟩)
      | (with_reducible refine (CallD.pure (ct_config_wrong _ hb hb2) (by simp) ?_).callV)
      | (with_reducible refine (CallD.pure (hf) (by simp) ?_).callV)
      | (with_reducible refine ordI (by kernel_rfl) ?_)
    all_goals simp [ofP, h]
  · have hh : (wrongP c != []) = true := by simpa using h
    repeat' first
      | simp -dsimp [hh]
      | (with_reducible refine exitV.cut (by simp) (by simp) (by simp) (by simp) ⟨?_, by simp⟩)
      | (with_reducible refine (CallD.pure (ct_config_wrong _ hb hb2) (by simp) ?_).callV)
      | (with_reducible refine ordI (by kernel_rfl) ?_)
    all_goals simp [ofP, h]

theorem ct_Rise (c : Cfg) (hb : c.lv.length < top) (hb2 : c.op.length < top) : Ct Tryd.prog G0 7 [c.enc] [] (vi (ofP c (riseP c))) [] := by
  refine callV_ic hm (fn := Tryd.f7) rfl ic7_eq ic7_nm ic7_ok (by simp) ?_
  simp -dsimp [ic7]
  repeat' first
    | simp -dsimp [*]
    | (with_reducible refine exitV.cut (by simp) (by simp) (by simp) (by simp) ⟨?_, by simp⟩)
    | (with_reducible refine (CallD.pure (ct_config_of c _ _ hb hb2 (ct_config_rise c)) (by simp) ?_).callV)
theorem ct_Settle (c : Cfg) (hb : c.lv.length < top) (hb2 : c.op.length < top) : Ct Tryd.prog G0 12 [c.enc] [] (vi (ofP c (settleP c))) [] := by
  refine callV_ic hm (fn := Tryd.f12) rfl ic12_eq ic12_nm ic12_ok (by simp) ?_
  simp -dsimp [ic12]
  repeat' first
    | simp -dsimp [*]
    | (with_reducible refine exitV.cut (by simp) (by simp) (by simp) (by simp) ⟨?_, by simp⟩)
    | (with_reducible refine (CallD.pure (ct_config_of c _ _ hb hb2 (ct_config_settle c)) (by simp) ?_).callV)
theorem ct_Brake (c : Cfg) (hb : c.lv.length < top) (hb2 : c.op.length < top) : Ct Tryd.prog G0 8 [c.enc] [] (vi (ofP c (brakeP c))) [] := by
  refine callV_ic hm (fn := Tryd.f8) rfl ic8_eq ic8_nm ic8_ok (by simp) ?_
  simp -dsimp [ic8]
  repeat' first
    | simp -dsimp [*]
    | (with_reducible refine exitV.cut (by simp) (by simp) (by simp) (by simp) ⟨?_, by simp⟩)
    | (with_reducible refine (CallD.pure (ct_config_of c _ _ hb hb2 (ct_config_brake c)) (by simp) ?_).callV)
theorem ct_Hold1 (c : Cfg) : Ct Tryd.prog G0 28 [c.enc] [] (vi (w64 (c.look + 1))) [] := by
  refine callV_ic hm (fn := Tryd.f28) rfl ic28_eq ic28_nm ic28_ok (by simp) ?_
  simp -dsimp [ic28]
  repeat' first
    | simp -dsimp [*]
    | (with_reducible refine exitV.cut (by simp) (by simp) (by simp) (by simp) ⟨?_, by simp⟩)
    | (with_reducible refine ordI (by kernel_rfl) ?_)
theorem ct_Hold (c : Cfg) (hb : c.lv.length < top) (hb2 : c.op.length < top) : Ct Tryd.prog G0 13 [c.enc] [] (vi (ofP c (w64 (c.look + 1)))) [] := by
  refine callV_ic hm (fn := Tryd.f13) rfl ic13_eq ic13_nm ic13_ok (by simp) ?_
  simp -dsimp [ic13]
  repeat' first
    | simp -dsimp [*]
    | (with_reducible refine exitV.cut (by simp) (by simp) (by simp) (by simp) ⟨?_, by simp⟩)
    | (with_reducible refine (CallD.pure (ct_config_of c _ _ hb hb2 (ct_Hold1 c)) (by simp) ?_).callV)
def backP (c : Cfg) : Int := w64 (w64 (w64 (c.star + 4) + startP c) + upP (w64 (c.vane + w64 (c.leak * startP c))) (w64 (c.sl - c.leak)))
theorem ct_Return1 (c : Cfg) : Ct Tryd.prog G0 24 [c.enc] [] (vi (backP c)) [] := by
  refine callV_ic hm (fn := Tryd.f24) rfl ic24_eq ic24_nm ic24_ok (by simp) ?_
  simp -dsimp [ic24]
  repeat' first
    | simp -dsimp [*]
    | (with_reducible refine exitV.cut (by simp) (by simp) (by simp) (by simp) ⟨?_, by simp⟩)
    | (with_reducible refine (CallD.pure (ct_config_start _) (by simp) ?_))
    | (with_reducible refine (CallD.pure (ct_ramp_Up _ _) (by simp) ?_))
    | (with_reducible refine ordI (by kernel_rfl) ?_)
  all_goals first | rfl | simp [backP]
theorem ct_Return (c : Cfg) (hb : c.lv.length < top) (hb2 : c.op.length < top) : Ct Tryd.prog G0 11 [c.enc] [] (vi (ofP c (backP c))) [] := by
  refine callV_ic hm (fn := Tryd.f11) rfl ic11_eq ic11_nm ic11_ok (by simp) ?_
  simp -dsimp [ic11]
  repeat' first
    | simp -dsimp [*]
    | (with_reducible refine exitV.cut (by simp) (by simp) (by simp) (by simp) ⟨?_, by simp⟩)
    | (with_reducible refine (CallD.pure (ct_config_of c _ _ hb hb2 (ct_Return1 c)) (by simp) ?_).callV)
end Go.Proofs.YtdnigflmcmammaaDoor
