/- Contracts of functions of the seat's program, and what follows of them: Pb. Conditions are in each statement. -/
import Derived.Test.YtmjhpniegjiocaaPa
import Derived.Test.YtmjhpniegjiocaaKw
set_option linter.unusedSimpArgs false
set_option linter.unusedVariables false
namespace Go.Proofs.Ytmjhpniegjiocaa
open Go Go.Proofs Go.Vm

theorem ct_config_within (x y z : Int) : Ct Try.prog G0 46 [vi x, vi y, vi z] [] (vb (withinB x y z)) [] := by
  refine callV_ic hm (fn := Try.f46) rfl ic46_eq ic46_nm ic46_ok (by simp) ?_
  simp -dsimp [ic46]
  repeat' first
    | simp -dsimp [*]
    | (with_reducible refine brV.intro (fun h => ?_) (fun h => ?_))
    | (with_reducible refine exitV.cut (by simp) (by simp) (by simp) (by simp) ⟨?_, by simp⟩)
    | (with_reducible refine ordI (by kernel_rfl) ?_)
  all_goals first | rfl | (simp only [withinB, *]; simp; done) | (simp_all [withinB]; done) | (simp_all [withinB]; intros; omega)

def riseP (c : Cfg) : Int := w64 (c.sh + coastP c.sh c.ramp)
theorem ct_config_rise (c : Cfg) : Ct Try.prog G0 50 [c.enc] [] (vi (riseP c)) [] := by
  refine callV_ic hm (fn := Try.f50) rfl ic50_eq ic50_nm ic50_ok (by simp) ?_
  simp -dsimp [ic50]
  repeat' first
    | simp -dsimp [*]
    | (with_reducible refine brV.intro (fun h => ?_) (fun h => ?_))
    | (with_reducible refine exitV.cut (by simp) (by simp) (by simp) (by simp) ⟨?_, by simp⟩)
    | (with_reducible refine (CallD.pure (ct_ramp_Coast _ _) (by simp) ?_).callV)
    | (with_reducible refine (CallD.pure (ct_ramp_Coast _ _) (by simp) ?_))
    | (with_reducible refine ordI (by kernel_rfl) ?_)
  all_goals first | rfl | (simp only [riseP, *]; simp; done) | (simp_all [riseP]; done) | (simp_all [riseP]; intros; omega)

def brakeP (c : Cfg) : Int := w64 (c.fh + coastP c.fh c.ramp)
theorem ct_config_brake (c : Cfg) : Ct Try.prog G0 60 [c.enc] [] (vi (brakeP c)) [] := by
  refine callV_ic hm (fn := Try.f60) rfl ic60_eq ic60_nm ic60_ok (by simp) ?_
  simp -dsimp [ic60]
  repeat' first
    | simp -dsimp [*]
    | (with_reducible refine brV.intro (fun h => ?_) (fun h => ?_))
    | (with_reducible refine exitV.cut (by simp) (by simp) (by simp) (by simp) ⟨?_, by simp⟩)
    | (with_reducible refine (CallD.pure (ct_ramp_Coast _ _) (by simp) ?_).callV)
    | (with_reducible refine (CallD.pure (ct_ramp_Coast _ _) (by simp) ?_))
    | (with_reducible refine ordI (by kernel_rfl) ?_)
  all_goals first | rfl | (simp only [brakeP, *]; simp; done) | (simp_all [brakeP]; done) | (simp_all [brakeP]; intros; omega)

def settleP (c : Cfg) : Int := w64 (ticksP c.fh c.ramp + 1)
theorem ct_config_settle (c : Cfg) : Ct Try.prog G0 29 [c.enc] [] (vi (settleP c)) [] := by
  refine callV_ic hm (fn := Try.f29) rfl ic29_eq ic29_nm ic29_ok (by simp) ?_
  simp -dsimp [ic29]
  repeat' first
    | simp -dsimp [*]
    | (with_reducible refine brV.intro (fun h => ?_) (fun h => ?_))
    | (with_reducible refine exitV.cut (by simp) (by simp) (by simp) (by simp) ⟨?_, by simp⟩)
    | (with_reducible refine (CallD.pure (ct_ramp_Ticks _ _) (by simp) ?_).callV)
    | (with_reducible refine (CallD.pure (ct_ramp_Ticks _ _) (by simp) ?_))
    | (with_reducible refine ordI (by kernel_rfl) ?_)
  all_goals first | rfl | (simp only [settleP, *]; simp; done) | (simp_all [settleP]; done) | (simp_all [settleP]; intros; omega)

def startP (c : Cfg) : Int := ticksP c.sh c.ramp
theorem ct_config_start (c : Cfg) : Ct Try.prog G0 31 [c.enc] [] (vi (startP c)) [] := by
  refine callV_ic hm (fn := Try.f31) rfl ic31_eq ic31_nm ic31_ok (by simp) ?_
  simp -dsimp [ic31]
  repeat' first
    | simp -dsimp [*]
    | (with_reducible refine brV.intro (fun h => ?_) (fun h => ?_))
    | (with_reducible refine exitV.cut (by simp) (by simp) (by simp) (by simp) ⟨?_, by simp⟩)
    | (with_reducible refine (CallD.pure (ct_ramp_Ticks _ _) (by simp) ?_).callV)
    | (with_reducible refine (CallD.pure (ct_ramp_Ticks _ _) (by simp) ?_))
    | (with_reducible refine ordI (by kernel_rfl) ?_)
  all_goals first | rfl | (simp only [startP, *]; simp; done) | (simp_all [startP]; done) | (simp_all [startP]; intros; omega)

def speedsP (c : Cfg) : Bool := decide (1 ≤ c.sl) && decide (c.sl ≤ c.sh) && decide (c.sh ≤ c.fl) && decide (c.fl ≤ c.fh) && decide (c.fh ≤ 1000)
theorem ct_config_speeds (c : Cfg) : Ct Try.prog G0 44 [c.enc] [] (vb (speedsP c)) [] := by
  refine callV_ic hm (fn := Try.f44) rfl ic44_eq ic44_nm ic44_ok (by simp) ?_
  simp -dsimp [ic44]
  repeat' first
    | simp -dsimp [*]
    | (with_reducible refine brV.intro (fun h => ?_) (fun h => ?_))
    | (with_reducible refine exitV.cut (by simp) (by simp) (by simp) (by simp) ⟨?_, by simp⟩)
    | (with_reducible refine ordI (by kernel_rfl) ?_)
  all_goals first | rfl | (simp only [speedsP, *]; simp; done) | (simp_all [speedsP]; done) | (simp_all [speedsP]; intros; omega)

def rampP (c : Cfg) : Bool := withinB c.ramp 1 1000
theorem ct_config_wrong1 (c : Cfg) : Ct Try.prog G0 45 [c.enc] [] (vb (rampP c)) [] := by
  refine callV_ic hm (fn := Try.f45) rfl ic45_eq ic45_nm ic45_ok (by simp) ?_
  simp -dsimp [ic45]
  repeat' first
    | simp -dsimp [*]
    | (with_reducible refine brV.intro (fun h => ?_) (fun h => ?_))
    | (with_reducible refine exitV.cut (by simp) (by simp) (by simp) (by simp) ⟨?_, by simp⟩)
    | (with_reducible refine (CallD.pure (ct_config_within _ _ _) (by simp) ?_).callV)
    | (with_reducible refine (CallD.pure (ct_config_within _ _ _) (by simp) ?_))
    | (with_reducible refine ordI (by kernel_rfl) ?_)
  all_goals first | rfl | (simp only [rampP, *]; simp; done) | (simp_all [rampP]; done) | (simp_all [rampP]; intros; omega)

def leakP (c : Cfg) : Bool := withinB c.leak 0 (w64 (c.sl - 1))
theorem ct_config_wrong2 (c : Cfg) : Ct Try.prog G0 47 [c.enc] [] (vb (leakP c)) [] := by
  refine callV_ic hm (fn := Try.f47) rfl ic47_eq ic47_nm ic47_ok (by simp) ?_
  simp -dsimp [ic47]
  repeat' first
    | simp -dsimp [*]
    | (with_reducible refine brV.intro (fun h => ?_) (fun h => ?_))
    | (with_reducible refine exitV.cut (by simp) (by simp) (by simp) (by simp) ⟨?_, by simp⟩)
    | (with_reducible refine (CallD.pure (ct_config_within _ _ _) (by simp) ?_).callV)
    | (with_reducible refine (CallD.pure (ct_config_within _ _ _) (by simp) ?_))
    | (with_reducible refine ordI (by kernel_rfl) ?_)
  all_goals first | rfl | (simp only [leakP, *]; simp; done) | (simp_all [leakP]; done) | (simp_all [leakP]; intros; omega)

def starP (c : Cfg) : Bool := withinB c.star 0 500
theorem ct_config_wrong3 (c : Cfg) : Ct Try.prog G0 48 [c.enc] [] (vb (starP c)) [] := by
  refine callV_ic hm (fn := Try.f48) rfl ic48_eq ic48_nm ic48_ok (by simp) ?_
  simp -dsimp [ic48]
  repeat' first
    | simp -dsimp [*]
    | (with_reducible refine brV.intro (fun h => ?_) (fun h => ?_))
    | (with_reducible refine exitV.cut (by simp) (by simp) (by simp) (by simp) ⟨?_, by simp⟩)
    | (with_reducible refine (CallD.pure (ct_config_within _ _ _) (by simp) ?_).callV)
    | (with_reducible refine (CallD.pure (ct_config_within _ _ _) (by simp) ?_))
    | (with_reducible refine ordI (by kernel_rfl) ?_)
  all_goals first | rfl | (simp only [starP, *]; simp; done) | (simp_all [starP]; done) | (simp_all [starP]; intros; omega)

def levelP (c : Cfg) : Bool := withinB c.level (riseP c) 1000000
theorem ct_config_wrong4 (c : Cfg) : Ct Try.prog G0 49 [c.enc] [] (vb (levelP c)) [] := by
  refine callV_ic hm (fn := Try.f49) rfl ic49_eq ic49_nm ic49_ok (by simp) ?_
  simp -dsimp [ic49]
  repeat' first
    | simp -dsimp [*]
    | (with_reducible refine brV.intro (fun h => ?_) (fun h => ?_))
    | (with_reducible refine exitV.cut (by simp) (by simp) (by simp) (by simp) ⟨?_, by simp⟩)
    | (with_reducible refine (CallD.pure (ct_config_within _ _ _) (by simp) ?_).callV)
    | (with_reducible refine (CallD.pure (ct_config_within _ _ _) (by simp) ?_))
    | (with_reducible refine (CallD.pure (ct_config_rise _) (by simp) ?_).callV)
    | (with_reducible refine (CallD.pure (ct_config_rise _) (by simp) ?_))
    | (with_reducible refine ordI (by kernel_rfl) ?_)
  all_goals first | rfl | (simp only [levelP, *]; simp; done) | (simp_all [levelP]; done) | (simp_all [levelP]; intros; omega)

def creepP (c : Cfg) : Bool := withinB c.creep c.level 1000000
theorem ct_config_wrong5 (c : Cfg) : Ct Try.prog G0 51 [c.enc] [] (vb (creepP c)) [] := by
  refine callV_ic hm (fn := Try.f51) rfl ic51_eq ic51_nm ic51_ok (by simp) ?_
  simp -dsimp [ic51]
  repeat' first
    | simp -dsimp [*]
    | (with_reducible refine brV.intro (fun h => ?_) (fun h => ?_))
    | (with_reducible refine exitV.cut (by simp) (by simp) (by simp) (by simp) ⟨?_, by simp⟩)
    | (with_reducible refine (CallD.pure (ct_config_within _ _ _) (by simp) ?_).callV)
    | (with_reducible refine (CallD.pure (ct_config_within _ _ _) (by simp) ?_))
    | (with_reducible refine ordI (by kernel_rfl) ?_)
  all_goals first | rfl | (simp only [creepP, *]; simp; done) | (simp_all [creepP]; done) | (simp_all [creepP]; intros; omega)

def vaneP (c : Cfg) : Bool := withinB c.vane (w64 (c.creep + w64 (c.leak * w64 (w64 (c.star + 4) + startP c)))) 1000000 && decide (c.fh ≤ w64 (2 * c.vane))
theorem ct_config_vane (c : Cfg) : Ct Try.prog G0 52 [c.enc] [] (vb (vaneP c)) [] := by
  refine callV_ic hm (fn := Try.f52) rfl ic52_eq ic52_nm ic52_ok (by simp) ?_
  simp -dsimp [ic52]
  repeat' first
    | simp -dsimp [*]
    | (with_reducible refine brV.intro (fun h => ?_) (fun h => ?_))
    | (with_reducible refine exitV.cut (by simp) (by simp) (by simp) (by simp) ⟨?_, by simp⟩)
    | (with_reducible refine (CallD.pure (ct_config_within _ _ _) (by simp) ?_).callV)
    | (with_reducible refine (CallD.pure (ct_config_within _ _ _) (by simp) ?_))
    | (with_reducible refine (CallD.pure (ct_config_start _) (by simp) ?_).callV)
    | (with_reducible refine (CallD.pure (ct_config_start _) (by simp) ?_))
    | (with_reducible refine ordI (by kernel_rfl) ?_)
  all_goals first | rfl | (simp only [vaneP, *]; simp; done) | (simp_all [vaneP]; done) | (simp_all [vaneP]; intros; omega)

def halfP (c : Cfg) : Bool := withinB c.half (w64 (c.vane + riseP c)) 1000000
theorem ct_config_wrong6 (c : Cfg) : Ct Try.prog G0 53 [c.enc] [] (vb (halfP c)) [] := by
  refine callV_ic hm (fn := Try.f53) rfl ic53_eq ic53_nm ic53_ok (by simp) ?_
  simp -dsimp [ic53]
  repeat' first
    | simp -dsimp [*]
    | (with_reducible refine brV.intro (fun h => ?_) (fun h => ?_))
    | (with_reducible refine exitV.cut (by simp) (by simp) (by simp) (by simp) ⟨?_, by simp⟩)
    | (with_reducible refine (CallD.pure (ct_config_within _ _ _) (by simp) ?_).callV)
    | (with_reducible refine (CallD.pure (ct_config_within _ _ _) (by simp) ?_))
    | (with_reducible refine (CallD.pure (ct_config_rise _) (by simp) ?_).callV)
    | (with_reducible refine (CallD.pure (ct_config_rise _) (by simp) ?_))
    | (with_reducible refine ordI (by kernel_rfl) ?_)
  all_goals first | rfl | (simp only [halfP, *]; simp; done) | (simp_all [halfP]; done) | (simp_all [halfP]; intros; omega)

def contactsP (c : Cfg) : Bool := withinB c.bounce 0 100 && withinB c.look (w64 (c.bounce + 1)) 200
theorem ct_config_wrong7 (c : Cfg) : Ct Try.prog G0 55 [c.enc] [] (vb (contactsP c)) [] := by
  refine callV_ic hm (fn := Try.f55) rfl ic55_eq ic55_nm ic55_ok (by simp) ?_
  simp -dsimp [ic55]
  repeat' first
    | simp -dsimp [*]
    | (with_reducible refine brV.intro (fun h => ?_) (fun h => ?_))
    | (with_reducible refine exitV.cut (by simp) (by simp) (by simp) (by simp) ⟨?_, by simp⟩)
    | (with_reducible refine (CallD.pure (ct_config_within _ _ _) (by simp) ?_).callV)
    | (with_reducible refine (CallD.pure (ct_config_within _ _ _) (by simp) ?_))
    | (with_reducible refine ordI (by kernel_rfl) ?_)
  all_goals first | rfl | (simp only [contactsP, *]; simp; done) | (simp_all [contactsP]; done) | (simp_all [contactsP]; intros; omega)

def runP (c : Cfg) : Bool := withinB c.run 1 1000000
theorem ct_config_wrong8 (c : Cfg) : Ct Try.prog G0 56 [c.enc] [] (vb (runP c)) [] := by
  refine callV_ic hm (fn := Try.f56) rfl ic56_eq ic56_nm ic56_ok (by simp) ?_
  simp -dsimp [ic56]
  repeat' first
    | simp -dsimp [*]
    | (with_reducible refine brV.intro (fun h => ?_) (fun h => ?_))
    | (with_reducible refine exitV.cut (by simp) (by simp) (by simp) (by simp) ⟨?_, by simp⟩)
    | (with_reducible refine (CallD.pure (ct_config_within _ _ _) (by simp) ?_).callV)
    | (with_reducible refine (CallD.pure (ct_config_within _ _ _) (by simp) ?_))
    | (with_reducible refine ordI (by kernel_rfl) ?_)
  all_goals first | rfl | (simp only [runP, *]; simp; done) | (simp_all [runP]; done) | (simp_all [runP]; intros; omega)

def startsP (c : Cfg) : Bool := withinB c.starts 1 100 && withinB c.within 1 1000000
theorem ct_config_wrong9 (c : Cfg) : Ct Try.prog G0 57 [c.enc] [] (vb (startsP c)) [] := by
  refine callV_ic hm (fn := Try.f57) rfl ic57_eq ic57_nm ic57_ok (by simp) ?_
  simp -dsimp [ic57]
  repeat' first
    | simp -dsimp [*]
    | (with_reducible refine brV.intro (fun h => ?_) (fun h => ?_))
    | (with_reducible refine exitV.cut (by simp) (by simp) (by simp) (by simp) ⟨?_, by simp⟩)
    | (with_reducible refine (CallD.pure (ct_config_within _ _ _) (by simp) ?_).callV)
    | (with_reducible refine (CallD.pure (ct_config_within _ _ _) (by simp) ?_))
    | (with_reducible refine ordI (by kernel_rfl) ?_)
  all_goals first | rfl | (simp only [startsP, *]; simp; done) | (simp_all [startsP]; done) | (simp_all [startsP]; intros; omega)

def gatesP (c : Cfg) : Bool := withinB c.patience 1 1000000 && withinB c.tries 1 20
theorem ct_config_wrong10 (c : Cfg) : Ct Try.prog G0 58 [c.enc] [] (vb (gatesP c)) [] := by
  refine callV_ic hm (fn := Try.f58) rfl ic58_eq ic58_nm ic58_ok (by simp) ?_
  simp -dsimp [ic58]
  repeat' first
    | simp -dsimp [*]
    | (with_reducible refine brV.intro (fun h => ?_) (fun h => ?_))
    | (with_reducible refine exitV.cut (by simp) (by simp) (by simp) (by simp) ⟨?_, by simp⟩)
    | (with_reducible refine (CallD.pure (ct_config_within _ _ _) (by simp) ?_).callV)
    | (with_reducible refine (CallD.pure (ct_config_within _ _ _) (by simp) ?_))
    | (with_reducible refine ordI (by kernel_rfl) ?_)
  all_goals first | rfl | (simp only [gatesP, *]; simp; done) | (simp_all [gatesP]; done) | (simp_all [gatesP]; intros; omega)

end Go.Proofs.Ytmjhpniegjiocaa
