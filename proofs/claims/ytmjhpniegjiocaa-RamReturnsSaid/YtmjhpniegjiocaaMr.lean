/- Contracts of functions of the seat's program, and what follows of them: Mr. Conditions are in each statement. -/
import Derived.Test.YtmjhpniegjiocaaKl
import Derived.Test.YtmjhpniegjiocaaPa
set_option linter.unusedSimpArgs false
set_option linter.unusedVariables false
namespace Go.Proofs.Ytmjhpniegjiocaa
open Go Go.Proofs Go.Vm

/-- What moves a car. -/
structure Drv where
  motion : Int
  power : Bool
  flow : Int
  leak : Int
  held : Bool
  level : Int
def Drv.cells (d : Drv) : List V := [vi d.motion, vb d.power, vi d.flow, vi d.leak, vb d.held, vi d.level]
abbrev Drv.enc (d : Drv) : V := .agg d.cells
@[simp] theorem okL_drv (p : Nat → Prop) (d : Drv) : okL p d.cells := by simp [Drv.cells]
@[simp] theorem renL_drv (ρ : Nat → Nat) (d : Drv) : renL ρ d.cells = d.cells := by simp [Drv.cells]
@[simp] theorem drv_length (d : Drv) : d.cells.length = 6 := rfl
@[simp] theorem drv_take (d : Drv) : d.cells.take 6 = d.cells := rfl
@[simp] theorem drv_0 (d : Drv) : d.cells[0]? = some (vi d.motion) := rfl
@[simp] theorem drv_1 (d : Drv) : d.cells[1]? = some (vb d.power) := rfl
@[simp] theorem drv_2 (d : Drv) : d.cells[2]? = some (vi d.flow) := rfl
@[simp] theorem drv_3 (d : Drv) : d.cells[3]? = some (vi d.leak) := rfl
@[simp] theorem drv_4 (d : Drv) : d.cells[4]? = some (vb d.held) := rfl
@[simp] theorem drv_5 (d : Drv) : d.cells[5]? = some (vi d.level) := rfl
structure Car where
  pos : Int
  speed : Int
abbrev Car.enc (k : Car) : V := .agg [vi k.pos, vi k.speed]

def clampR (n low high : Int) : Int := if decide (n < low) = true then low else if decide (high < n) = true then high else n
theorem ct_ref01_Clamp (x y z : Int) : Ct Try.prog G0 27 [vi x, vi y, vi z] [] (vi (clampR x y z)) [] := by
  refine callV_ic hm (fn := Try.f27) rfl ic27_eq ic27_nm ic27_ok (by simp) ?_
  simp -dsimp [ic27]
  repeat' first
    | simp -dsimp [*]
    | with_reducible refine brV.intro (fun h => ?_) (fun h => ?_)
    | (with_reducible refine exitV.cut (by simp) (by simp) (by simp) (by simp) ⟨?_, by simp⟩)
    | (with_reducible refine ordI (by kernel_rfl) ?_)
  all_goals first | (simp only [clampR, *]; simp; done) | (simp_all [clampR]; done) | (simp_all [clampR]; intros; omega)

def targetP (c : Cfg) (d : Drv) : Int :=
  if d.power = false then 0 else
  if (d.motion == 3) = true then w64 (-1 * clampP d.flow c.sl c.sh) else
  if (d.motion == 1) = true then w64 (1 * clampP d.flow c.sl c.sh) else
  if (d.motion == 4) = true then w64 (-1 * clampP d.flow c.fl c.fh) else
  if (d.motion == 2) = true then w64 (1 * clampP d.flow c.fl c.fh) else 0
theorem ct_ram_Target (c : Cfg) (d : Drv) : Ct Try.prog G0 15 [c.enc, d.enc] [] (vi (targetP c d)) [] := by
  refine callV_ic hm (fn := Try.f15) rfl ic15_eq ic15_nm ic15_ok (by simp) ?_
  simp -dsimp [ic15]
  repeat' first
    | simp -dsimp [*]
    | with_reducible refine brV.intro (fun h => ?_) (fun h => ?_)
    | (with_reducible refine exitV.cut (by simp) (by simp) (by simp) (by simp) ⟨?_, by simp⟩)
    | (with_reducible refine (CallD.pure (ct_ramp_Clamp _ _ _) (by simp) ?_).callV)
    | (with_reducible refine CallD.pure (ct_ramp_Clamp _ _ _) (by simp) ?_)
    | (with_reducible refine ordI (by kernel_rfl) ?_)
  all_goals first | (simp only [targetP, *]; simp; done) | (simp_all [targetP]; done) | (simp_all [targetP]; intros; omega)

def targetR (c : Cfg) (d : Drv) : Int :=
  if d.power = false then 0 else
  if (d.motion == 1) = true then clampR d.flow c.sl c.sh else
  if (d.motion == 2) = true then clampR d.flow c.fl c.fh else
  if (d.motion == 3) = true then w64 (-clampR d.flow c.sl c.sh) else
  if (d.motion == 4) = true then w64 (-clampR d.flow c.fl c.fh) else 0
theorem ct_ref12_Target (c : Cfg) (d : Drv) : Ct Try.prog G0 16 [c.enc, d.enc] [] (vi (targetR c d)) [] := by
  refine callV_ic hm (fn := Try.f16) rfl ic16_eq ic16_nm ic16_ok (by simp) ?_
  simp -dsimp [ic16]
  repeat' first
    | simp -dsimp [*]
    | with_reducible refine brV.intro (fun h => ?_) (fun h => ?_)
    | (with_reducible refine exitV.cut (by simp) (by simp) (by simp) (by simp) ⟨?_, by simp⟩)
    | (with_reducible refine (CallD.pure (ct_ref01_Clamp _ _ _) (by simp) ?_).callV)
    | (with_reducible refine CallD.pure (ct_ref01_Clamp _ _ _) (by simp) ?_)
    | (with_reducible refine ordI (by kernel_rfl) ?_)
  all_goals first | (simp only [targetR, *]; simp; done) | (simp_all [targetR]; done) | (simp_all [targetR]; intros; omega)

def buffered (c : Cfg) (k : Car) : Car :=
  if decide (k.pos < w64 (at0 c.lv 0 - c.half)) = true then ⟨w64 (at0 c.lv 0 - c.half), max 0 k.speed⟩ else
  if decide (w64 (at0 c.lv (c.lv.length - 1) + c.half) < k.pos) = true then ⟨w64 (at0 c.lv (c.lv.length - 1) + c.half), min 0 k.speed⟩ else k
theorem ct_ram_buffered (c : Cfg) (k : Car) (hb : c.lv.length < top) (hp : 0 < c.lv.length) : Ct Try.prog G0 25 [c.enc, k.enc] [] ((buffered c k).enc) [] := by
  have hw : IntKind.wrap .i64 ((c.lv.length : Int) - 1) = ((c.lv.length - 1 : Nat) : Int) := by
    unfold top at hb
    rw [w64_of (by omega) (by omega)]; omega
  have hl2 : c.lv.length - 1 < c.lv.length := by omega
  have hne : c.lv.length ≠ 0 := by omega
  have hnil : c.lv ≠ [] := fun h => by rw [h] at hp; simp at hp
  refine callV_ic hm (fn := Try.f25) rfl ic25_eq ic25_nm ic25_ok (by simp) ?_
  simp -dsimp [ic25]
  repeat' first
    | simp -dsimp [*]
    | with_reducible refine brV.intro (fun h => ?_) (fun h => ?_)
    | (with_reducible refine exitV.cut (by simp) (by simp) (by simp) (by simp) ⟨?_, by simp⟩)
    | (with_reducible refine ordI (by kernel_rfl) ?_)
  all_goals first | (simp only [buffered, *]; simp; done) | (simp_all [buffered]; done) | (simp_all [buffered]; intros; omega)

def stepP (c : Cfg) (k : Car) (d : Drv) : Car :=
  let v := towP k.speed (targetP c d) c.ramp
  let p := w64 (k.pos + w64 (v - clampP d.leak 0 c.leak))
  if (d.held && decide (p < w64 (d.level - c.half))) = true then buffered c ⟨w64 (d.level - c.half), max 0 v⟩ else buffered c ⟨p, v⟩
set_option maxRecDepth 100000 in
theorem ct_ram_Step (c : Cfg) (k : Car) (d : Drv) (hb : c.lv.length < top) (hp : 0 < c.lv.length) : Ct Try.prog G0 13 [c.enc, k.enc, d.enc] [] ((stepP c k d).enc) [] := by
  refine callV_ic hm (fn := Try.f13) rfl ic13_eq ic13_nm ic13_ok (by simp) ?_
  simp -dsimp [ic13]
  repeat' first
    | simp -dsimp [*]
    | with_reducible refine brV.intro (fun h => ?_) (fun h => ?_)
    | (with_reducible refine exitV.cut (by simp) (by simp) (by simp) (by simp) ⟨?_, by simp⟩)
    | (with_reducible refine (CallD.pure (ct_ram_Target _ _) (by simp) ?_).callV)
    | (with_reducible refine CallD.pure (ct_ram_Target _ _) (by simp) ?_)
    | (with_reducible refine (CallD.pure (ct_ramp_Clamp _ _ _) (by simp) ?_).callV)
    | (with_reducible refine CallD.pure (ct_ramp_Clamp _ _ _) (by simp) ?_)
    | (with_reducible refine (CallD.pure (ct_ramp_Toward _ _ _) (by simp) ?_).callV)
    | (with_reducible refine CallD.pure (ct_ramp_Toward _ _ _) (by simp) ?_)
    | (with_reducible refine (CallD.pure (ct_ram_buffered c ⟨_, _⟩ hb hp) (by simp) ?_).callV)
    | (with_reducible refine CallD.pure (ct_ram_buffered c ⟨_, _⟩ hb hp) (by simp) ?_)
    | (with_reducible refine ordI (by kernel_rfl) ?_)
  all_goals first | (simp only [stepP, *]; simp; done) | (simp_all [stepP]; done) | (simp_all [stepP]; intros; omega)

def bufR (c : Cfg) (q : Car) : Car :=
  if decide (q.pos < w64 (at0 c.lv 0 - c.half)) = true then ⟨w64 (at0 c.lv 0 - c.half), max q.speed 0⟩ else
  if decide (w64 (at0 c.lv (c.lv.length - 1) + c.half) < q.pos) = true then ⟨w64 (at0 c.lv (c.lv.length - 1) + c.half), min q.speed 0⟩ else q
def stepR (c : Cfg) (k : Car) (d : Drv) : Car :=
  let v := towR k.speed (targetR c d) c.ramp
  let p := w64 (w64 (k.pos + v) - clampR d.leak 0 c.leak)
  if (d.held && decide (p < w64 (d.level - c.half))) = true then bufR c ⟨w64 (d.level - c.half), max v 0⟩ else bufR c ⟨p, v⟩
set_option maxRecDepth 100000 in
theorem ct_ref12_Step (c : Cfg) (k : Car) (d : Drv) (hb : c.lv.length < top) (hp : 0 < c.lv.length) : Ct Try.prog G0 14 [c.enc, k.enc, d.enc] [] ((stepR c k d).enc) [] := by
  have hw : IntKind.wrap .i64 ((c.lv.length : Int) - 1) = ((c.lv.length - 1 : Nat) : Int) := by
    unfold top at hb
    rw [w64_of (by omega) (by omega)]; omega
  have hl2 : c.lv.length - 1 < c.lv.length := by omega
  have hne : c.lv.length ≠ 0 := by omega
  have hnil : c.lv ≠ [] := fun h => by rw [h] at hp; simp at hp
  refine callV_ic hm (fn := Try.f14) rfl ic14_eq ic14_nm ic14_ok (by simp) ?_
  simp -dsimp [ic14]
  repeat' first
    | simp -dsimp [*]
    | with_reducible refine brV.intro (fun h => ?_) (fun h => ?_)
    | (with_reducible refine exitV.cut (by simp) (by simp) (by simp) (by simp) ⟨?_, by simp⟩)
    | (with_reducible refine (CallD.pure (ct_ref12_Target _ _) (by simp) ?_).callV)
    | (with_reducible refine CallD.pure (ct_ref12_Target _ _) (by simp) ?_)
    | (with_reducible refine (CallD.pure (ct_ref01_Clamp _ _ _) (by simp) ?_).callV)
    | (with_reducible refine CallD.pure (ct_ref01_Clamp _ _ _) (by simp) ?_)
    | (with_reducible refine (CallD.pure (ct_ref01_Toward _ _ _) (by simp) ?_).callV)
    | (with_reducible refine CallD.pure (ct_ref01_Toward _ _ _) (by simp) ?_)
    | (with_reducible refine ordI (by kernel_rfl) ?_)
  all_goals first | (simp only [stepR, bufR, *, Bool.and_true, Bool.true_and, Bool.and_false, Bool.false_and, Bool.and_self, if_true, Bool.false_eq_true, if_false, reduceIte]; done) | (simp only [stepR, bufR, *, Bool.and_true, Bool.true_and, Bool.and_false, Bool.false_and, Bool.and_self, if_true, Bool.false_eq_true, if_false, reduceIte]; simp; done) | (simp_all [stepR]; done) | (simp_all [stepR]; intros; omega)

def near12 (k : Car) (d : Drv) : Bool := near31 k.pos && near31 k.speed && near31 d.flow && near31 d.leak && near31 d.level
theorem ct_ref12_Near (k : Car) (d : Drv) : Ct Try.prog G0 12 [k.enc, d.enc] [] (vb (near12 k d)) [] := by
  refine callV_ic hm (fn := Try.f12) rfl ic12_eq ic12_nm ic12_ok (by simp) ?_
  simp -dsimp [ic12]
  repeat' first
    | simp -dsimp [*]
    | with_reducible refine brV.intro (fun h => ?_) (fun h => ?_)
    | (with_reducible refine exitV.cut (by simp) (by simp) (by simp) (by simp) ⟨?_, by simp⟩)
    | (with_reducible refine (CallD.pure (ct_ref01_Near _) (by simp) ?_).callV)
    | (with_reducible refine CallD.pure (ct_ref01_Near _) (by simp) ?_)
    | (with_reducible refine ordI (by kernel_rfl) ?_)
  all_goals first | (simp only [near12, *]; simp; done) | (simp_all [near12]; done) | (simp_all [near12]; intros; omega)

end Go.Proofs.Ytmjhpniegjiocaa
