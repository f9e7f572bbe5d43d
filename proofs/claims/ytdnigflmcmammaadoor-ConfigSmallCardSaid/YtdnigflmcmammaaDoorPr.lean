/- Contracts of functions of the seat's program, and what follows of them: Pr. Conditions are in each statement. -/
import Derived.Test.YtdnigflmcmammaaDoorPq
set_option linter.unusedSimpArgs false
set_option linter.unusedVariables false
namespace Go.Proofs.YtdnigflmcmammaaDoor
open Go Go.Proofs Go.Vm

/-- The same lift, with other gaps and times. -/
def Ln.cfgX (l : Ln) (g run within patience : Int) : Cfg := ⟨(List.range l.n).map fun (i : Nat) => (i : Int) * g, l.ops l.n, l.half, l.vane, l.level, l.creep, l.near, l.fl, l.fh, l.sl, l.sh, l.leak, l.ramp, l.bounce, l.bounce + 1 + l.lk, l.star, run, l.starts, within, patience, l.tries⟩
theorem Ln.cfg_eq (l : Ln) : l.cfg = l.cfgX l.gp l.run l.within l.patience := rfl
/-- The zones' numbers. -/
structure Ln.zn (l : Ln) : Prop where
  rise : 2 ≤ l.rise ∧ l.rise ≤ 182
  level : l.rise ≤ l.level ∧ l.level ≤ 189
  creep : l.level ≤ l.creep ∧ l.creep ≤ 196
  vane : l.creep + l.leak * (l.star + 4 + tickR l.ramp 2000 l.sh 0) ≤ l.vane ∧ l.fh ≤ 2 * l.vane ∧ l.vane ≤ 500
  half : l.vane + l.rise ≤ l.half ∧ l.half ≤ 710
  near : l.half + l.fh + coastR l.ramp 2000 l.fh 0 ≤ l.near ∧ l.near ≤ 3000
  gp : 2 * l.near + l.fh < l.gp ∧ l.gp ≤ 7000
theorem Ln.zns {l : Ln} (h : l.ok) : l.zn := by
  have b := Ln.bds h
  have h1 := b.sh; have h2 := b.fl; have h3 := b.fh; have h4 := b.c1; have h5 := b.c2; have h6 := b.tk; have h7 := b.lk; have h8 := b.td
  have k1 := h.b0; have k2 := h.b1; have k3 := h.b2; have k4 := h.b3; have k5 := h.b4; have k6 := h.gap
  have z1 : 2 ≤ l.rise ∧ l.rise ≤ 182 := by unfold Ln.rise; omega
  have z2 : l.rise ≤ l.level ∧ l.level ≤ 189 := by unfold Ln.level; omega
  have z3 : l.level ≤ l.creep ∧ l.creep ≤ 196 := by unfold Ln.creep; omega
  have z4 : l.creep + l.leak * (l.star + 4 + tickR l.ramp 2000 l.sh 0) ≤ l.vane ∧ l.fh ≤ 2 * l.vane ∧ l.vane ≤ 500 := by unfold Ln.vane; omega
  have z5 : l.vane + l.rise ≤ l.half ∧ l.half ≤ 710 := by unfold Ln.half; omega
  have z6 : l.half + l.fh + coastR l.ramp 2000 l.fh 0 ≤ l.near ∧ l.near ≤ 3000 := by unfold Ln.near; omega
  have z7 : 2 * l.near + l.fh < l.gp ∧ l.gp ≤ 7000 := by unfold Ln.gp; omega
  exact ⟨z1, z2, z3, z4, z5, z6, z7⟩
theorem at0_map {f : Nat → Int} {n k : Nat} (h : k < n) : at0 ((List.range n).map f) k = f k := by simp [at0, List.getD, h]
theorem Ln.sp {l : Ln} (h : l.ok) {g r w p : Int} : Sp (l.cfgX g r w p) := by
  have b := Ln.bds h
  have h1 := b.sh; have h2 := b.fl; have h3 := b.fh
  have k1 := h.sl; have k2 := h.a2; have k3 := h.ramp
  have e : l.sh = l.sl + l.a2 := rfl
  refine ⟨?_, ?_, ?_, ?_, ?_, ?_, ?_⟩ <;> (simp only [Ln.cfgX]; omega)
theorem Ln.rise_eq {l : Ln} (h : l.ok) {g r w p : Int} : riseP (l.cfgX g r w p) = l.rise := by
  rw [Go.Proofs.YtdnigflmcmammaaDoor.rise_eq (Ln.sp h)]
  have b := Ln.bds h
  have h1 := b.sh; have h4 := b.c1
  exact w64_id (x := l.sh + coastR l.ramp 2000 l.sh 0) (by omega) (by omega)
theorem Ln.brake_eq {l : Ln} (h : l.ok) {g r w p : Int} : brakeP (l.cfgX g r w p) = l.fh + coastR l.ramp 2000 l.fh 0 := by
  have b := Ln.bds h
  have h1 := b.sh; have h2 := b.fl; have h3 := b.fh; have h5 := b.c2; have k := h.ramp
  unfold brakeP
  simp only [Ln.cfgX]
  rw [coast_eq (by omega) (by omega) (by omega) (by omega), w64_id (by omega) (by omega)]
theorem Ln.fine {l : Ln} (h : l.ok) {g r w p : Int} (hg : l.gp ≤ g) (hg2 : g ≤ 8000) (hr : 1 ≤ r ∧ r ≤ 1000000) (hw : 1 ≤ w ∧ w ≤ 1000000) (hp : 1 ≤ p ∧ p ≤ 1000000) : Fine (l.cfgX g r w p) := by
  have b := Ln.bds h
  have z := Ln.zns h
  have h1 := b.sh; have h2 := b.fl; have h3 := b.fh; have h4 := b.c1; have h5 := b.c2; have h6 := b.tk; have h7 := b.lk; have h8 := b.td
  have z1 := z.rise; have z2 := z.level; have z3 := z.creep; have z4 := z.vane; have z5 := z.half; have z6 := z.near; have z7 := z.gp
  have n := h.n; have k1 := h.sl; have k2 := h.a2; have k3 := h.ramp; have k4 := h.leak; have k5 := h.star; have k6 := h.bounce; have k7 := h.lk; have k8 := h.starts; have k9 := h.tries
  have sp := Ln.sp h (g := g) (r := r) (w := w) (p := p)
  have er := Ln.rise_eq h (g := g) (r := r) (w := w) (p := p)
  have eb := Ln.brake_eq h (g := g) (r := r) (w := w) (p := p)
  have es := start_eq sp
  have lvl : (l.cfgX g r w p).lv.length = l.n := by simp [Ln.cfgX]
  have at1 : ∀ k, k < l.n → at0 (l.cfgX g r w p).lv k = k * g := fun k hk => at0_map hk
  have at2 : ∀ k, k < l.n → at0 (l.cfgX g r w p).op k = l.op k := fun k hk => at0_map hk
  have mul : ∀ k : Nat, k < l.n → (k : Int) * g ≤ 5 * 8000 ∧ 0 ≤ (k : Int) * g := fun k hk => ⟨Int.mul_le_mul (by omega) (by omega) (by omega) (by omega), Int.mul_nonneg (by omega) (by omega)⟩
  have stp : ∀ k : Nat, 0 < k → k < l.n → (k : Int) * g = ((k - 1 : Nat) : Int) * g + g := fun k h0 hk => by
    obtain ⟨j, rfl⟩ : ∃ j, k = j + 1 := ⟨k - 1, by omega⟩
    simp only [Nat.add_sub_cancel]
    push_cast
    rw [Int.add_mul]; omega
  constructor
  · simp only [levels1, Bool.and_eq_true, allB_iff, lvl]
    refine ⟨fun k hk => ?_, by simp [withinB]; omega⟩
    have m := mul k hk
    by_cases hz : k = 0
    · subst hz
      simp [goodL1, at1 0 hk]
    · simp only [goodL1, hz, if_false, at1 k hk, at1 (k - 1) (by omega), Bool.and_eq_true, decide_eq_true_eq]
      have := stp k (by omega) hk
      omega
  · simp only [openB, Bool.and_eq_true, allB_iff, lvl]
    have ol : (l.cfgX g r w p).op.length = l.n := by simp [Ln.cfgX]
    refine ⟨fun k hk => ?_, by simp [ol]⟩
    have := h.op k
    rw [ol] at hk
    simp only [goodOp, withinB, at2 k hk, Bool.and_eq_true, decide_eq_true_eq]; omega
  · have e : l.sh = l.sl + l.a2 := rfl
    simp only [speedsP, Bool.and_eq_true, decide_eq_true_eq]; simp only [Ln.cfgX]; omega
  · simp only [rampP, withinB, Bool.and_eq_true, decide_eq_true_eq]; simp only [Ln.cfgX]; omega
  · simp only [leakP, withinB, Bool.and_eq_true, decide_eq_true_eq]; simp only [Ln.cfgX]
    rw [w64_id (by omega) (by omega)]; omega
  · simp only [starP, withinB, Bool.and_eq_true, decide_eq_true_eq]; simp only [Ln.cfgX]; omega
  · simp only [levelP, er, withinB, Bool.and_eq_true, decide_eq_true_eq]; simp only [Ln.cfgX]; omega
  · simp only [creepP, withinB, Bool.and_eq_true, decide_eq_true_eq]; simp only [Ln.cfgX]; omega
  · simp only [vaneP, es, withinB, Bool.and_eq_true, decide_eq_true_eq]
    simp only [Ln.cfgX]
    rw [w64_id (x := l.star + 4) (by omega) (by omega), w64_id (x := l.star + 4 + _) (by omega) (by omega), w64_id (x := l.leak * _) (by omega) (by omega), w64_id (x := l.creep + _) (by omega) (by omega), w64_id (x := 2 * l.vane) (by omega) (by omega)]
    omega
  · simp only [halfP, er, withinB, Bool.and_eq_true, decide_eq_true_eq]; simp only [Ln.cfgX]
    rw [w64_id (by omega) (by omega)]; omega
  · simp only [nearP, eb, withinB, apartB, allB_iff, Bool.and_eq_true, decide_eq_true_eq]
    refine ⟨fun k hk => ?_, ?_⟩
    · rw [lvl] at hk
      by_cases hz : k = 0
      · simp [goodAp, hz]
      · have e := stp k (by omega) hk
        have m := mul k hk
        have m2 := mul (k - 1) (by omega)
        simp only [goodAp, Bool.or_eq_true, decide_eq_true_eq, Bool.not_eq_true', decide_eq_false_iff_not]
        right
        rw [at1 k hk, at1 (k - 1) (by omega)]
        simp only [Ln.cfgX]
        rw [w64_id (x := (k : Int) * g - _) (by omega) (by omega), w64_id (x := 2 * l.near) (by omega) (by omega), w64_id (by omega) (by omega)]
        omega
    · simp only [Ln.cfgX]
      rw [w64_id (by omega) (by omega)]; omega
  · simp only [contactsP, withinB, Bool.and_eq_true, decide_eq_true_eq]; simp only [Ln.cfgX]
    rw [w64_id (by omega) (by omega)]; omega
  · simp only [runP, withinB, Bool.and_eq_true, decide_eq_true_eq]; simp only [Ln.cfgX]; omega
  · simp only [startsP, withinB, Bool.and_eq_true, decide_eq_true_eq]; simp only [Ln.cfgX]; omega
  · simp only [gatesP, withinB, Bool.and_eq_true, decide_eq_true_eq]; simp only [Ln.cfgX]; omega
theorem Ln.back {l : Ln} (h : l.ok) {g r w p : Int} : l.star < backP (l.cfgX g r w p) := by
  have b := Ln.bds h
  have z := Ln.zns h
  have h1 := b.sh; have h6 := b.tk; have h7 := b.lk; have z1 := z.rise; have z4 := z.vane; have z2 := z.level; have z3 := z.creep
  have k1 := h.sl; have k4 := h.leak; have k5 := h.star; have k3 := h.ramp
  have es := start_eq (Ln.sp h (g := g) (r := r) (w := w) (p := p))
  unfold backP
  rw [es]
  simp only [Ln.cfgX]
  have m0 : 0 ≤ l.leak * tickR l.ramp 2000 l.sh 0 := Int.mul_nonneg (by omega) (by omega)
  have m1 : l.leak * tickR l.ramp 2000 l.sh 0 ≤ 10 * 13 := Int.mul_le_mul (by omega) (by omega) (by omega) (by omega)
  rw [w64_id (x := l.star + 4) (by omega) (by omega), w64_id (x := l.star + 4 + _) (by omega) (by omega), w64_id (x := l.leak * _) (by omega) (by omega), w64_id (x := l.vane + _) (by omega) (by omega), w64_id (x := l.sl - l.leak) (by omega) (by omega), up_eq (by omega) (by omega) (by omega)]
  have t1 := tk_pos (b := l.sl - l.leak) (s := l.vane + l.leak * tickR l.ramp 2000 l.sh 0) (by omega) (by omega)
  have t2 := tk_le (b := l.sl - l.leak) (s := l.vane + l.leak * tickR l.ramp 2000 l.sh 0) (by omega) (by omega)
  rw [w64_id (by omega) (by omega)]
  omega
end Go.Proofs.YtdnigflmcmammaaDoor
