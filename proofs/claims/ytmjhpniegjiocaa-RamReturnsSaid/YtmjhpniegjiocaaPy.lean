/- Contracts of functions of the seat's program, and what follows of them: Py. Conditions are in each statement. -/
import Derived.Test.YtmjhpniegjiocaaPx
set_option linter.unusedSimpArgs false
set_option linter.unusedVariables false
namespace Go.Proofs.Ytmjhpniegjiocaa
open Go Go.Proofs Go.Vm

theorem ret_step {c : Cfg} (g : Good c) {k : Car} {d : Drv} (hh : d.held = false) (hm : d.motion = 1) (hp : d.power = true) (v0 : 0 ≤ k.speed) (v1 : k.speed ≤ c.sh) {level : Int} (hl : level ≤ at0 c.lv (c.lv.length - 1)) :
    level ≤ (tick c k d).pos ∨ (0 ≤ (tick c k d).speed ∧ (tick c k d).speed ≤ c.sh ∧ min (k.speed + c.ramp) c.sl ≤ (tick c k d).speed ∧ k.pos + (tick c k d).speed - c.leak ≤ (tick c k d).pos) := by
  have r1 := g.ramp1; have s1 := g.sl; have s2 := g.sh; have k1 := g.leak1
  have n := nums_of g
  have n1 := n.lev; have n2 := n.cr; have n3 := n.va; have n4 := n.ha
  have lb := lv_bd g (k := c.lv.length - 1) (by have := g.h2; omega)
  have b := clampR_bd (n := d.leak) (lo := 0) (hi := c.leak) k1
  have a := clampR_bd (n := d.flow) (lo := c.sl) (hi := c.sh) (by omega)
  have t : targetR c d = clampR d.flow c.sl c.sh := by unfold targetR; rw [hm, hp]; simp
  rw [← t] at a
  have vb : ∃ v, v = (if k.speed < targetR c d then min (k.speed + c.ramp) (targetR c d) else max (k.speed - c.ramp) (targetR c d)) ∧ 0 ≤ v ∧ v ≤ c.sh ∧ min (k.speed + c.ramp) c.sl ≤ v := by
    refine ⟨_, rfl, ?_, ?_, ?_⟩ <;> (split <;> omega)
  obtain ⟨v, hv, v2, v3, v4⟩ := vb
  unfold tick
  rw [hh, ← hv]
  dsimp only
  generalize clampR d.leak 0 c.leak = L at *
  generalize at0 c.lv (c.lv.length - 1) = hi' at *
  simp only [Bool.false_eq_true, false_and, if_false]
  split
  · dsimp only
    right; omega
  · split
    · dsimp only
      left; omega
    · dsimp only
      right; omega
/-- Where it is at least, so many ticks after it was told to creep up. -/
def lowAt (c : Cfg) (level : Int) (j : Int) : Int :=
  if j ≤ Tk c.ramp c.sh then level - c.vane - c.leak * j else level - c.vane - c.leak * Tk c.ramp c.sh + (c.sl - c.leak) * (j - Tk c.ramp c.sh)
theorem low_next {c : Cfg} (g : Good c) {level j v p p' : Int} (h0 : 0 ≤ j) (hv : min (j * c.ramp) c.sl ≤ v) {v' : Int} (hv' : min (v + c.ramp) c.sl ≤ v') (hv0 : 0 ≤ v') (hp : lowAt c level j ≤ p) (hp' : p + v' - c.leak ≤ p') :
    min ((j + 1) * c.ramp) c.sl ≤ v' ∧ lowAt c level (j + 1) ≤ p' := by
  have r1 := g.ramp1; have s1 := g.sl; have s2 := g.sh
  have e : (j + 1) * c.ramp = j * c.ramp + c.ramp := by rw [Int.add_mul]; omega
  have a : min ((j + 1) * c.ramp) c.sl ≤ v' := by rw [e]; omega
  refine ⟨a, ?_⟩
  obtain ⟨k1, k2⟩ := tk_spec r1 c.sh
  unfold lowAt at hp ⊢
  split at hp
  · rename_i h1
    split
    · rw [Int.mul_add]; omega
    · rename_i h2
      have hj : j = Tk c.ramp c.sh := by omega
      subst hj
      have e2 : Tk c.ramp c.sh * c.ramp = c.ramp * Tk c.ramp c.sh := Int.mul_comm _ _
      rw [show Tk c.ramp c.sh + 1 - Tk c.ramp c.sh = 1 by omega]
      omega
  · rename_i h1
    rw [if_neg (by omega)]
    have m : Tk c.ramp c.sh * c.ramp ≤ j * c.ramp := Int.mul_le_mul_of_nonneg_right (by omega) (by omega)
    have e2 : Tk c.ramp c.sh * c.ramp = c.ramp * Tk c.ramp c.sh := Int.mul_comm _ _
    have e3 : (c.sl - c.leak) * (j + 1 - Tk c.ramp c.sh) = (c.sl - c.leak) * (j - Tk c.ramp c.sh) + (c.sl - c.leak) := by
      rw [show j + 1 - Tk c.ramp c.sh = (j - Tk c.ramp c.sh) + 1 by omega, Int.mul_add]; omega
    omega
theorem back_eq {c : Cfg} (g : Good c) : backP c = c.star + 4 + Tk c.ramp c.sh + Tk (c.sl - c.leak) (c.vane + c.leak * Tk c.ramp c.sh) ∧ 0 ≤ Tk c.ramp c.sh ∧ Tk c.ramp c.sh ≤ 1000 ∧ 0 ≤ Tk (c.sl - c.leak) (c.vane + c.leak * Tk c.ramp c.sh) ∧ Tk (c.sl - c.leak) (c.vane + c.leak * Tk c.ramp c.sh) ≤ 2000000 := by
  have sp : Sp c := ⟨g.sl, g.sh, g.fl, g.fh, g.fh2, g.ramp1, g.ramp2⟩
  have r1 := g.ramp1; have s1 := g.sl; have s2 := g.sh; have s3 := g.fl; have s4 := g.fh; have s5 := g.fh2; have k1 := g.leak1; have k2 := g.leak2; have t1 := g.star1; have t2 := g.star2; have v2 := g.vane2
  have n := nums_of g
  have n1 := n.lev; have n2 := n.cr; have n3 := n.va
  have p1 := tk_pos r1 (show 0 < c.sh by omega)
  have p2 := tk_le r1 (show 0 ≤ c.sh by omega)
  have m0 : 0 ≤ c.leak * Tk c.ramp c.sh := Int.mul_nonneg (by omega) (by omega)
  have m1 : c.leak * Tk c.ramp c.sh ≤ 1000 * 1000 := Int.mul_le_mul (by omega) (by omega) (by omega) (by omega)
  have q1 := tk_pos (b := c.sl - c.leak) (s := c.vane + c.leak * Tk c.ramp c.sh) (by omega) (by omega)
  have q2 := tk_le (b := c.sl - c.leak) (s := c.vane + c.leak * Tk c.ramp c.sh) (by omega) (by omega)
  refine ⟨?_, by omega, by omega, by omega, by omega⟩
  unfold backP
  rw [start_tk sp, w64_id (x := c.star + 4) (by omega) (by omega), w64_id (x := c.star + 4 + _) (by omega) (by omega), w64_id (x := c.leak * _) (by omega) (by omega), w64_id (x := c.vane + _) (by omega) (by omega), w64_id (x := c.sl - c.leak) (by omega) (by omega), up_eq (by omega) (by omega) (by omega)]
  exact w64_id (by omega) (by omega)
theorem low_end {c : Cfg} (g : Good c) {level p : Int} (h : lowAt c level (4 + Tk c.ramp c.sh + Tk (c.sl - c.leak) (c.vane + c.leak * Tk c.ramp c.sh)) ≤ p) : level ≤ p := by
  have k1 := g.leak1; have k2 := g.leak2
  obtain ⟨_, q1, q2, q3, q4⟩ := back_eq g
  obtain ⟨a1, a2⟩ := tk_spec (b := c.sl - c.leak) (by omega) (c.vane + c.leak * Tk c.ramp c.sh)
  unfold lowAt at h
  rw [if_neg (by omega), show 4 + Tk c.ramp c.sh + Tk (c.sl - c.leak) (c.vane + c.leak * Tk c.ramp c.sh) - Tk c.ramp c.sh = Tk (c.sl - c.leak) (c.vane + c.leak * Tk c.ramp c.sh) + 4 by omega, Int.mul_add] at h
  omega
end Go.Proofs.Ytmjhpniegjiocaa
