/- Contracts of functions of the seat's program, and what follows of them: Pb. Conditions are in each statement. -/
import Derived.Test.YtdnigflmcmammaaDoorPa
import Derived.Test.YtdnigflmcmammaaDoorKw
set_option linter.unusedSimpArgs false
set_option linter.unusedVariables false
namespace Go.Proofs.YtdnigflmcmammaaDoor
open Go Go.Proofs Go.Vm

theorem ct_config_within (x y z : Int) : Ct Tryd.prog G0 34 [vi x, vi y, vi z] [] (vb (withinB x y z)) [] := by
  refine callV_ic hm (fn := Tryd.f34) rfl ic34_eq ic34_nm ic34_ok (by simp) ?_
  simp -dsimp [ic34]
  repeat' first
    | simp -dsimp [*]
    | (with_reducible refine brV.intro (fun h => ?_) (fun h => ?_))
    | (with_reducible refine exitV.cut (by simp) (by simp) (by simp) (by simp) ⟨?_, by simp⟩)
    | (with_reducible refine ordI (by kernel_rfl) ?_)
  all_goals first | rfl | (simp only [withinB, *]; simp; done) | (simp_all [withinB]; done) | (simp_all [withinB]; intros; omega)

def riseP (c : Cfg) : Int := w64 (c.sh + coastP c.sh c.ramp)
theorem ct_config_rise (c : Cfg) : Ct Tryd.prog G0 20 [c.enc] [] (vi (riseP c)) [] := by
  refine callV_ic hm (fn := Tryd.f20) rfl ic20_eq ic20_nm ic20_ok (by simp) ?_
  simp -dsimp [ic20]
  repeat' first
    | simp -dsimp [*]
    | (with_reducible refine brV.intro (fun h => ?_) (fun h => ?_))
    | (with_reducible refine exitV.cut (by simp) (by simp) (by simp) (by simp) ⟨?_, by simp⟩)
    | (with_reducible refine (CallD.pure (ct_ramp_Coast _ _) (by simp) ?_).callV)
    | (with_reducible refine (CallD.pure (ct_ramp_Coast _ _) (by simp) ?_))
    | (with_reducible refine ordI (by kernel_rfl) ?_)
  all_goals first | rfl | (simp only [riseP, *]; simp; done) | (simp_all [riseP]; done) | (simp_all [riseP]; intros; omega)

def brakeP (c : Cfg) : Int := w64 (c.fh + coastP c.fh c.ramp)
theorem ct_config_brake (c : Cfg) : Ct Tryd.prog G0 21 [c.enc] [] (vi (brakeP c)) [] := by
  refine callV_ic hm (fn := Tryd.f21) rfl ic21_eq ic21_nm ic21_ok (by simp) ?_
  simp -dsimp [ic21]
  repeat' first
    | simp -dsimp [*]
    | (with_reducible refine brV.intro (fun h => ?_) (fun h => ?_))
    | (with_reducible refine exitV.cut (by simp) (by simp) (by simp) (by simp) ⟨?_, by simp⟩)
    | (with_reducible refine (CallD.pure (ct_ramp_Coast _ _) (by simp) ?_).callV)
    | (with_reducible refine (CallD.pure (ct_ramp_Coast _ _) (by simp) ?_))
    | (with_reducible refine ordI (by kernel_rfl) ?_)
  all_goals first | rfl | (simp only [brakeP, *]; simp; done) | (simp_all [brakeP]; done) | (simp_all [brakeP]; intros; omega)

def settleP (c : Cfg) : Int := w64 (ticksP c.fh c.ramp + 1)
theorem ct_config_settle (c : Cfg) : Ct Tryd.prog G0 27 [c.enc] [] (vi (settleP c)) [] := by
  refine callV_ic hm (fn := Tryd.f27) rfl ic27_eq ic27_nm ic27_ok (by simp) ?_
  simp -dsimp [ic27]
  repeat' first
    | simp -dsimp [*]
    | (with_reducible refine brV.intro (fun h => ?_) (fun h => ?_))
    | (with_reducible refine exitV.cut (by simp) (by simp) (by simp) (by simp) ⟨?_, by simp⟩)
    | (with_reducible refine (CallD.pure (ct_ramp_Ticks _ _) (by simp) ?_).callV)
    | (with_reducible refine (CallD.pure (ct_ramp_Ticks _ _) (by simp) ?_))
    | (with_reducible refine ordI (by kernel_rfl) ?_)
  all_goals first | rfl | (simp only [settleP, *]; simp; done) | (simp_all [settleP]; done) | (simp_all [settleP]; intros; omega)

def startP (c : Cfg) : Int := ticksP c.sh c.ramp
theorem ct_config_start (c : Cfg) : Ct Tryd.prog G0 25 [c.enc] [] (vi (startP c)) [] := by
  refine callV_ic hm (fn := Tryd.f25) rfl ic25_eq ic25_nm ic25_ok (by simp) ?_
  simp -dsimp [ic25]
  repeat' first
    | simp -dsimp [*]
    | (with_reducible refine brV.intro (fun h => ?_) (fun h => ?_))
    | (with_reducible refine exitV.cut (by simp) (by simp) (by simp) (by simp) ⟨?_, by simp⟩)
    | (with_reducible refine (CallD.pure (ct_ramp_Ticks _ _) (by simp) ?_).callV)
    | (with_reducible refine (CallD.pure (ct_ramp_Ticks _ _) (by simp) ?_))
    | (with_reducible refine ordI (by kernel_rfl) ?_)
  all_goals first | rfl | (simp only [startP, *]; simp; done) | (simp_all [startP]; done) | (simp_all [startP]; intros; omega)

def speedsP (c : Cfg) : Bool := decide (1 ≤ c.sl) && decide (c.sl ≤ c.sh) && decide (c.sh ≤ c.fl) && decide (c.fl ≤ c.fh) && decide (c.fh ≤ 1000)
theorem ct_config_speeds (c : Cfg) : Ct Tryd.prog G0 32 [c.enc] [] (vb (speedsP c)) [] := by
  refine callV_ic hm (fn := Tryd.f32) rfl ic32_eq ic32_nm ic32_ok (by simp) ?_
  simp -dsimp [ic32]
  repeat' first
    | simp -dsimp [*]
    | (with_reducible refine brV.intro (fun h => ?_) (fun h => ?_))
    | (with_reducible refine exitV.cut (by simp) (by simp) (by simp) (by simp) ⟨?_, by simp⟩)
    | (with_reducible refine ordI (by kernel_rfl) ?_)
  all_goals first | rfl | (simp only [speedsP, *]; simp; done) | (simp_all [speedsP]; done) | (simp_all [speedsP]; intros; omega)

def rampP (c : Cfg) : Bool := withinB c.ramp 1 1000
theorem ct_config_wrong1 (c : Cfg) : Ct Tryd.prog G0 33 [c.enc] [] (vb (rampP c)) [] := by
  refine callV_ic hm (fn := Tryd.f33) rfl ic33_eq ic33_nm ic33_ok (by simp) ?_
  simp -dsimp [ic33]
  repeat' first
    | simp -dsimp [*]
    | (with_reducible refine brV.intro (fun h => ?_) (fun h => ?_))
    | (with_reducible refine exitV.cut (by simp) (by simp) (by simp) (by simp) ⟨?_, by simp⟩)
    | (with_reducible refine (CallD.pure (ct_config_within _ _ _) (by simp) ?_).callV)
    | (with_reducible refine (CallD.pure (ct_config_within _ _ _) (by simp) ?_))
    | (with_reducible refine ordI (by kernel_rfl) ?_)
  all_goals first | rfl | (simp only [rampP, *]; simp; done) | (simp_all [rampP]; done) | (simp_all [rampP]; intros; omega)

def leakP (c : Cfg) : Bool := withinB c.leak 0 (w64 (c.sl - 1))
theorem ct_config_wrong2 (c : Cfg) : Ct Tryd.prog G0 35 [c.enc] [] (vb (leakP c)) [] := by
  refine callV_ic hm (fn := Tryd.f35) rfl ic35_eq ic35_nm ic35_ok (by simp) ?_
  simp -dsimp [ic35]
  repeat' first
    | simp -dsimp [*]
    | (with_reducible refine brV.intro (fun h => ?_) (fun h => ?_))
    | (with_reducible refine exitV.cut (by simp) (by simp) (by simp) (by simp) ⟨?_, by simp⟩)
    | (with_reducible refine (CallD.pure (ct_config_within _ _ _) (by simp) ?_).callV)
    | (with_reducible refine (CallD.pure (ct_config_within _ _ _) (by simp) ?_))
    | (with_reducible refine ordI (by kernel_rfl) ?_)
  all_goals first | rfl | (simp only [leakP, *]; simp; done) | (simp_all [leakP]; done) | (simp_all [leakP]; intros; omega)

def starP (c : Cfg) : Bool := withinB c.star 0 500
theorem ct_config_wrong3 (c : Cfg) : Ct Tryd.prog G0 36 [c.enc] [] (vb (starP c)) [] := by
  refine callV_ic hm (fn := Tryd.f36) rfl ic36_eq ic36_nm ic36_ok (by simp) ?_
  simp -dsimp [ic36]
  repeat' first
    | simp -dsimp [*]
    | (with_reducible refine brV.intro (fun h => ?_) (fun h => ?_))
    | (with_reducible refine exitV.cut (by simp) (by simp) (by simp) (by simp) ⟨?_, by simp⟩)
    | (with_reducible refine (CallD.pure (ct_config_within _ _ _) (by simp) ?_).callV)
    | (with_reducible refine (CallD.pure (ct_config_within _ _ _) (by simp) ?_))
    | (with_reducible refine ordI (by kernel_rfl) ?_)
  all_goals first | rfl | (simp only [starP, *]; simp; done) | (simp_all [starP]; done) | (simp_all [starP]; intros; omega)

def levelP (c : Cfg) : Bool := withinB c.level (riseP c) 1000000
theorem ct_config_wrong4 (c : Cfg) : Ct Tryd.prog G0 37 [c.enc] [] (vb (levelP c)) [] := by
  refine callV_ic hm (fn := Tryd.f37) rfl ic37_eq ic37_nm ic37_ok (by simp) ?_
  simp -dsimp [ic37]
  repeat' first
    | simp -dsimp [*]
    | (with_reducible refine brV.intro (fun h => ?_) (fun h => ?_))
    | (with_reducible refine exitV.cut (by simp) (by simp) (by simp) (by simp) ⟨?_, by simp⟩)
    | (with_reducible refine (CallD.pure (ct_config_within _ _ _) (by simp) ?_).callV)
    | (with_reducible refine (CallD.pure (ct_config_within _ _ _) (by simp) ?_))
    | (with_reducible refine (CallD.pure (ct_config_rise _) (by simp) ?_).callV)
    | (with_reducible refine (CallD.pure (ct_config_rise _) (by simp) ?_))
    | (with_reducible refine ordI (by kernel_rfl) ?_)
  all_goals first | rfl | (simp only [levelP, *]; simp; done) | (simp_all [levelP]; done) | (simp_all [levelP]; intros; omega)

def creepP (c : Cfg) : Bool := withinB c.creep c.level 1000000
theorem ct_config_wrong5 (c : Cfg) : Ct Tryd.prog G0 38 [c.enc] [] (vb (creepP c)) [] := by
  refine callV_ic hm (fn := Tryd.f38) rfl ic38_eq ic38_nm ic38_ok (by simp) ?_
  simp -dsimp [ic38]
  repeat' first
    | simp -dsimp [*]
    | (with_reducible refine brV.intro (fun h => ?_) (fun h => ?_))
    | (with_reducible refine exitV.cut (by simp) (by simp) (by simp) (by simp) ⟨?_, by simp⟩)
    | (with_reducible refine (CallD.pure (ct_config_within _ _ _) (by simp) ?_).callV)
    | (with_reducible refine (CallD.pure (ct_config_within _ _ _) (by simp) ?_))
    | (with_reducible refine ordI (by kernel_rfl) ?_)
  all_goals first | rfl | (simp only [creepP, *]; simp; done) | (simp_all [creepP]; done) | (simp_all [creepP]; intros; omega)

def vaneP (c : Cfg) : Bool := withinB c.vane (w64 (c.creep + w64 (c.leak * w64 (w64 (c.star + 4) + startP c)))) 1000000 && decide (c.fh ≤ w64 (2 * c.vane))
theorem ct_config_vane (c : Cfg) : Ct Tryd.prog G0 39 [c.enc] [] (vb (vaneP c)) [] := by
  refine callV_ic hm (fn := Tryd.f39) rfl ic39_eq ic39_nm ic39_ok (by simp) ?_
  simp -dsimp [ic39]
  repeat' first
    | simp -dsimp [*]
    | (with_reducible refine brV.intro (fun h => ?_) (fun h => ?_))
    | (with_reducible refine exitV.cut (by simp) (by simp) (by simp) (by simp) ⟨?_, by simp⟩)
    | (with_reducible refine (CallD.pure (ct_config_within _ _ _) (by simp) ?_).callV)
    | (with_reducible refine (CallD.pure (ct_config_within _ _ _) (by simp) ?_))
    | (with_reducible refine (CallD.pure (ct_config_start _) (by simp) ?_).callV)
    | (with_reducible refine (CallD.pure (ct_config_start _) (by simp) ?_))
    | (with_reducible refine ordI (by kernel_rfl) ?_)
  all_goals first | rfl | (simp only [vaneP, *]; simp; done) | (simp_all [vaneP]; done) | (simp_all [vaneP]; intros; omega)

def halfP (c : Cfg) : Bool := withinB c.half (w64 (c.vane + riseP c)) 1000000
theorem ct_config_wrong6 (c : Cfg) : Ct Tryd.prog G0 40 [c.enc] [] (vb (halfP c)) [] := by
  refine callV_ic hm (fn := Tryd.f40) rfl ic40_eq ic40_nm ic40_ok (by simp) ?_
  simp -dsimp [ic40]
  repeat' first
    | simp -dsimp [*]
    | (with_reducible refine brV.intro (fun h => ?_) (fun h => ?_))
    | (with_reducible refine exitV.cut (by simp) (by simp) (by simp) (by simp) ⟨?_, by simp⟩)
    | (with_reducible refine (CallD.pure (ct_config_within _ _ _) (by simp) ?_).callV)
    | (with_reducible refine (CallD.pure (ct_config_within _ _ _) (by simp) ?_))
    | (with_reducible refine (CallD.pure (ct_config_rise _) (by simp) ?_).callV)
    | (with_reducible refine (CallD.pure (ct_config_rise _) (by simp) ?_))
    | (with_reducible refine ordI (by kernel_rfl) ?_)
  all_goals first | rfl | (simp only [halfP, *]; simp; done) | (simp_all [halfP]; done) | (simp_all [halfP]; intros; omega)

def contactsP (c : Cfg) : Bool := withinB c.bounce 0 100 && withinB c.look (w64 (c.bounce + 1)) 200
theorem ct_config_wrong7 (c : Cfg) : Ct Tryd.prog G0 42 [c.enc] [] (vb (contactsP c)) [] := by
  refine callV_ic hm (fn := Tryd.f42) rfl ic42_eq ic42_nm ic42_ok (by simp) ?_
  simp -dsimp [ic42]
  repeat' first
    | simp -dsimp [*]
    | (with_reducible refine brV.intro (fun h => ?_) (fun h => ?_))
    | (with_reducible refine exitV.cut (by simp) (by simp) (by simp) (by simp) ⟨?_, by simp⟩)
    | (with_reducible refine (CallD.pure (ct_config_within _ _ _) (by simp) ?_).callV)
    | (with_reducible refine (CallD.pure (ct_config_within _ _ _) (by simp) ?_))
    | (with_reducible refine ordI (by kernel_rfl) ?_)
  all_goals first | rfl | (simp only [contactsP, *]; simp; done) | (simp_all [contactsP]; done) | (simp_all [contactsP]; intros; omega)

def runP (c : Cfg) : Bool := withinB c.run 1 1000000
theorem ct_config_wrong8 (c : Cfg) : Ct Tryd.prog G0 43 [c.enc] [] (vb (runP c)) [] := by
  refine callV_ic hm (fn := Tryd.f43) rfl ic43_eq ic43_nm ic43_ok (by simp) ?_
  simp -dsimp [ic43]
  repeat' first
    | simp -dsimp [*]
    | (with_reducible refine brV.intro (fun h => ?_) (fun h => ?_))
    | (with_reducible refine exitV.cut (by simp) (by simp) (by simp) (by simp) ⟨?_, by simp⟩)
    | (with_reducible refine (CallD.pure (ct_config_within _ _ _) (by simp) ?_).callV)
    | (with_reducible refine (CallD.pure (ct_config_within _ _ _) (by simp) ?_))
    | (with_reducible refine ordI (by kernel_rfl) ?_)
  all_goals first | rfl | (simp only [runP, *]; simp; done) | (simp_all [runP]; done) | (simp_all [runP]; intros; omega)

def startsP (c : Cfg) : Bool := withinB c.starts 1 100 && withinB c.within 1 1000000
theorem ct_config_wrong9 (c : Cfg) : Ct Tryd.prog G0 44 [c.enc] [] (vb (startsP c)) [] := by
  refine callV_ic hm (fn := Tryd.f44) rfl ic44_eq ic44_nm ic44_ok (by simp) ?_
  simp -dsimp [ic44]
  repeat' first
    | simp -dsimp [*]
    | (with_reducible refine brV.intro (fun h => ?_) (fun h => ?_))
    | (with_reducible refine exitV.cut (by simp) (by simp) (by simp) (by simp) ⟨?_, by simp⟩)
    | (with_reducible refine (CallD.pure (ct_config_within _ _ _) (by simp) ?_).callV)
    | (with_reducible refine (CallD.pure (ct_config_within _ _ _) (by simp) ?_))
    | (with_reducible refine ordI (by kernel_rfl) ?_)
  all_goals first | rfl | (simp only [startsP, *]; simp; done) | (simp_all [startsP]; done) | (simp_all [startsP]; intros; omega)

def gatesP (c : Cfg) : Bool := withinB c.patience 1 1000000 && withinB c.tries 1 20
theorem ct_config_wrong10 (c : Cfg) : Ct Tryd.prog G0 45 [c.enc] [] (vb (gatesP c)) [] := by
  refine callV_ic hm (fn := Tryd.f45) rfl ic45_eq ic45_nm ic45_ok (by simp) ?_
  simp -dsimp [ic45]
  repeat' first
    | simp -dsimp [*]
    | (with_reducible refine brV.intro (fun h => ?_) (fun h => ?_))
    | (with_reducible refine exitV.cut (by simp) (by simp) (by simp) (by simp) ⟨?_, by simp⟩)
    | (with_reducible refine (CallD.pure (ct_config_within _ _ _) (by simp) ?_).callV)
    | (with_reducible refine (CallD.pure (ct_config_within _ _ _) (by simp) ?_))
    | (with_reducible refine ordI (by kernel_rfl) ?_)
  all_goals first | rfl | (simp only [gatesP, *]; simp; done) | (simp_all [gatesP]; done) | (simp_all [gatesP]; intros; omega)

end Go.Proofs.YtdnigflmcmammaaDoor
