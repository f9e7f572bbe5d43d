/- Contracts of functions of the seat's program, and what follows of them: Pw. Conditions are in each statement. -/
import Derived.Test.YtmjhpniegjiocaaPv
import Derived.Test.YtmjhpniegjiocaaMh
set_option linter.unusedSimpArgs false
set_option linter.unusedVariables false
namespace Go.Proofs.Ytmjhpniegjiocaa
open Go Go.Proofs Go.Vm

theorem towP_clampR : True := trivial
theorem target_bd {c : Cfg} (g : Good c) (d : Drv) : -c.fh ≤ targetR c d ∧ targetR c d ≤ c.fh := by
  have s1 := g.sl; have s2 := g.sh; have s3 := g.fl; have s4 := g.fh; have s5 := g.fh2
  have a := clampR_bd (n := d.flow) (lo := c.sl) (hi := c.sh) (by omega)
  have b := clampR_bd (n := d.flow) (lo := c.fl) (hi := c.fh) (by omega)
  have e1 : w64 (-clampR d.flow c.sl c.sh) = -clampR d.flow c.sl c.sh := w64_of (by omega) (by omega)
  have e2 : w64 (-clampR d.flow c.fl c.fh) = -clampR d.flow c.fl c.fh := w64_of (by omega) (by omega)
  unfold targetR
  rw [e1, e2]
  split
  · omega
  · split
    · omega
    · split
      · omega
      · split
        · omega
        · split <;> omega
theorem tk_next' {b s : Int} (hb : 1 ≤ b) (hs : 0 ≤ s) : Tk b (max (s - b) 0) = max (Tk b s - 1) 0 := by
  rcases Int.lt_or_le 0 s with h | h
  · have := tk_step hb h
    have := tk_pos hb h
    omega
  · rw [show s = 0 by omega, show max (0 - b) 0 = 0 by omega, tk_zero hb]; omega
theorem buf_step {c : Cfg} (g : Good c) {k : Car} {d : Drv} (hh : d.held = false) (s1 : -c.fh ≤ k.speed) (s2 : k.speed ≤ c.fh) :
    -c.half ≤ (tick c k d).pos ∧ (tick c k d).pos ≤ at0 c.lv (c.lv.length - 1) + c.half ∧ -c.fh ≤ (tick c k d).speed ∧ (tick c k d).speed ≤ c.fh ∧
    (targetR c d = 0 → Tk c.ramp (max (tick c k d).speed (-(tick c k d).speed)) ≤ max (Tk c.ramp (max k.speed (-k.speed)) - 1) 0) := by
  have r1 := g.ramp1
  have t := target_bd g d
  have lb := lv_bd g (k := c.lv.length - 1) (by have := g.h2; omega)
  have n := nums_of g
  have n1 := n.lev; have n2 := n.cr; have n3 := n.va; have n4 := n.ha
  have tn := tk_next' (b := c.ramp) r1 (show 0 ≤ max k.speed (-k.speed) by omega)
  have vb : ∃ v, v = (if k.speed < targetR c d then min (k.speed + c.ramp) (targetR c d) else max (k.speed - c.ramp) (targetR c d)) ∧ -c.fh ≤ v ∧ v ≤ c.fh ∧ (targetR c d = 0 → max v (-v) = max (max k.speed (-k.speed) - c.ramp) 0) := by
    refine ⟨_, rfl, ?_, ?_, ?_⟩ <;> (split <;> omega)
  obtain ⟨v, hv, v1, v2, v3⟩ := vb
  have small : ∀ w : Int, 0 ≤ w → w ≤ max v (-v) → targetR c d = 0 → Tk c.ramp w ≤ max (Tk c.ramp (max k.speed (-k.speed)) - 1) 0 := by
    intro w w1 w2 ht
    rw [← tn]
    exact tk_mono r1 (by have := v3 ht; omega)
  unfold tick
  rw [hh, ← hv]
  dsimp only
  generalize clampR d.leak 0 c.leak = L at *
  generalize at0 c.lv (c.lv.length - 1) = hi' at *
  simp only [Bool.false_eq_true, false_and, if_false]
  split
  · dsimp only
    exact ⟨by omega, by omega, by omega, by omega, small _ (by omega) (by omega)⟩
  · split
    · dsimp only
      exact ⟨by omega, by omega, by omega, by omega, small _ (by omega) (by omega)⟩
    · dsimp only
      exact ⟨by omega, by omega, by omega, by omega, small _ (by omega) (by omega)⟩
theorem target_quiet {c : Cfg} {d : Drv} (h : d.power = false ∨ d.motion = 0) : targetR c d = 0 := by
  unfold targetR
  rcases h with h | h
  · rw [if_pos h]
  · rw [h]; simp
end Go.Proofs.Ytmjhpniegjiocaa
