/- Contracts of functions of the seat's program, and what follows of them: Ms. Conditions are in each statement. -/
import Derived.Test.YtmjhpniegjiocaaMr
import Derived.Test.YtmjhpniegjiocaaGd
set_option linter.unusedSimpArgs false
set_option linter.unusedVariables false
namespace Go.Proofs.Ytmjhpniegjiocaa
open Go Go.Proofs Go.Vm

@[simp] theorem c6_lv : cfg6.lv = [0, 225] := rfl
theorem c6_step : stepP cfg6 ⟨0, 0⟩ ⟨1, true, 99, 0, false, 0⟩ = ⟨1, 1⟩ := by
  have h : (stepP cfg6 ⟨0, 0⟩ ⟨1, true, 99, 0, false, 0⟩).pos = 1 ∧ (stepP cfg6 ⟨0, 0⟩ ⟨1, true, 99, 0, false, 0⟩).speed = 1 := by decide +kernel
  cases e : stepP cfg6 ⟨0, 0⟩ ⟨1, true, 99, 0, false, 0⟩
  rw [e] at h
  simp_all
theorem c6_target : targetP cfg6 ⟨3, true, 0, 0, false, 0⟩ = -8 := by decide +kernel
@[simp] theorem flat_car : flat Try.prog 40 28 = some [.i, .i] := by kernel_rfl
@[simp] theorem guard_car : Try.prog.eqGuardType Try.prog.depth 28 = false := by kernel_rfl
theorem drv_lit (a : Int) (b : Bool) (x y : Int) (e : Bool) (z : Int) : V.agg [vi a, vb b, vi x, vi y, vb e, vi z] = (Drv.mk a b x y e z).enc := rfl
set_option maxRecDepth 100000 in
theorem ct_law12_awake : Ct Try.prog G0 10 [] [] (vb true) [] := by
  refine callV_ic hm (fn := Try.f10) rfl ic10_eq ic10_nm ic10_ok (by simp) ?_
  have hL := ct_Lift6
  unfold small6 at hL
  have hb : cfg6.lv.length < top := by simp [top]
  have hp : 0 < cfg6.lv.length := by simp
  have e1 := c6_step
  have e2 := c6_target
  have s1 := ct_ram_Step cfg6 ⟨0, 0⟩ ⟨1, true, 99, 0, false, 0⟩ hb hp
  have s2 := ct_ram_Target cfg6 ⟨3, true, 0, 0, false, 0⟩
  rw [e1] at s1
  rw [e2] at s2
  simp only [Drv.enc, Drv.cells] at s1 s2
  simp -dsimp [ic10]
  repeat' first
    | simp -dsimp [w64_of]
    | with_reducible refine brV.intro (fun h => ?_) (fun h => ?_)
    | (with_reducible refine exitV.cut (by simp) (by simp) (by simp) (by simp) ⟨?_, by simp⟩)
    | (with_reducible refine (CallD.pure hL (by simp) ?_).callV)
    | (with_reducible refine (CallD.pure s1 (by simp) ?_).callV)
    | (with_reducible refine (CallD.pure s2 (by simp) ?_).callV)
    | (with_reducible refine CallD.pure s1 (by simp) ?_)
    | (with_reducible refine CallD.pure s2 (by simp) ?_)
    | (with_reducible refine ordI (by kernel_rfl) ?_)

def fineB (c : Cfg) : Bool := nearC c && (wrongR c).isEmpty
theorem ct_law12_fine (c : Cfg) (hb : c.op.length < top) : Ct Try.prog G0 11 [c.enc] [] (vb (fineB c)) [] := by
  refine callV_ic hm (fn := Try.f11) rfl ic11_eq ic11_nm ic11_ok (by simp) ?_
  simp -dsimp [ic11]
  repeat' first
    | simp -dsimp [*]
    | with_reducible refine brV.intro (fun h => ?_) (fun h => ?_)
    | (with_reducible refine exitV.cut (by simp) (by simp) (by simp) (by simp) ⟨?_, by simp⟩)
    | (with_reducible refine (CallD.pure (ct_ref05_Near _) (by simp) ?_).callV)
    | (with_reducible refine (CallD.pure (ct_ref05_Wrong _ hb) (by simp) ?_).callV)
    | (with_reducible refine CallD.pure (ct_ref05_Near _) (by simp) ?_)
    | (with_reducible refine CallD.pure (ct_ref05_Wrong _ hb) (by simp) ?_)
    | (with_reducible refine ordI (by kernel_rfl) ?_)
  all_goals simp [fineB, *]
theorem fineB_good {c : Cfg} (h : fineB c = true) : Good c := by
  simp only [fineB, Bool.and_eq_true, List.isEmpty_iff] at h
  exact good_of h.2

theorem clamp_eq {n lo hi : Int} (h : lo ≤ hi) : clampP n lo hi = clampR n lo hi := by
  simp only [clampP, clampR, decide_eq_true_eq]
  split
  · rfl
  · split <;> omega
theorem clampR_bd {n lo hi : Int} (h : lo ≤ hi) : lo ≤ clampR n lo hi ∧ clampR n lo hi ≤ hi := by
  simp only [clampR, decide_eq_true_eq]
  split
  · omega
  · split <;> omega
theorem target_eq {c : Cfg} (g : Good c) (d : Drv) : targetP c d = targetR c d ∧ -1000 ≤ targetR c d ∧ targetR c d ≤ 1000 := by
  have s1 := g.sl; have s2 := g.sh; have s3 := g.fl; have s4 := g.fh; have s5 := g.fh2
  have a := clampR_bd (n := d.flow) (lo := c.sl) (hi := c.sh) (by omega)
  have b := clampR_bd (n := d.flow) (lo := c.fl) (hi := c.fh) (by omega)
  unfold targetP targetR
  rw [clamp_eq (n := d.flow) (lo := c.sl) (hi := c.sh) (by omega), clamp_eq (n := d.flow) (lo := c.fl) (hi := c.fh) (by omega)]
  simp only [Int.one_mul, Int.neg_one_mul, beq_iff_eq]
  rw [w64_id (x := -clampR d.flow c.sl c.sh) (by omega) (by omega), w64_id (x := -clampR d.flow c.fl c.fh) (by omega) (by omega), w64_id (x := clampR d.flow c.sl c.sh) (by omega) (by omega), w64_id (x := clampR d.flow c.fl c.fh) (by omega) (by omega)]
  by_cases h0 : d.power = false
  · simp [h0]
  · by_cases h1 : d.motion = 1
    · simp [h0, h1]; omega
    · by_cases h2 : d.motion = 2
      · simp [h0, h2]; omega
      · by_cases h3 : d.motion = 3
        · simp [h0, h3]; omega
        · by_cases h4 : d.motion = 4
          · simp [h0, h4]; omega
          · simp [h0, h1, h2, h3, h4]
theorem tow_eq {s t r : Int} (s1 : -4294967296 ≤ s) (s2 : s ≤ 4294967296) (t1 : -1000 ≤ t) (t2 : t ≤ 1000) (r1 : 1 ≤ r) (r2 : r ≤ 1000) :
    towP s t r = (if s < t then min (s + r) t else max (s - r) t) ∧ towR s t r = (if s < t then min (s + r) t else max (s - r) t) := by
  unfold towP towR
  rw [show max r 0 = r by omega, w64_id (x := t - s) (by omega) (by omega), w64_id (x := -r) (by omega) (by omega)]
  rw [w64_id (x := s + r) (by omega) (by omega), w64_id (x := s - r) (by omega) (by omega)]
  have : clampP (t - s) (-r) r = max (-r) (min (t - s) r) := by
    simp only [clampP, decide_eq_true_eq]; split <;> omega
  rw [this, w64_id (by omega) (by omega)]
  constructor
  · split <;> omega
  · rfl
/-- A tick, without wraps. -/
def tick (c : Cfg) (k : Car) (d : Drv) : Car :=
  let v := if k.speed < targetR c d then min (k.speed + c.ramp) (targetR c d) else max (k.speed - c.ramp) (targetR c d)
  let p := k.pos + v - clampR d.leak 0 c.leak
  let q : Car := if d.held = true ∧ p < d.level - c.half then ⟨d.level - c.half, max v 0⟩ else ⟨p, v⟩
  if q.pos < -c.half then ⟨-c.half, max q.speed 0⟩ else if at0 c.lv (c.lv.length - 1) + c.half < q.pos then ⟨at0 c.lv (c.lv.length - 1) + c.half, min q.speed 0⟩ else q
theorem near12_bd {k : Car} {d : Drv} (h : near12 k d = true) : -2147483648 ≤ k.pos ∧ k.pos ≤ 2147483648 ∧ -2147483648 ≤ k.speed ∧ k.speed ≤ 2147483648 ∧ -2147483648 ≤ d.level ∧ d.level ≤ 2147483648 := by
  simp only [near12, near31, Bool.and_eq_true, decide_eq_true_eq] at h
  omega
theorem step_eq {c : Cfg} (g : Good c) {k : Car} {d : Drv} (p1 : -4294967296 ≤ k.pos) (p2 : k.pos ≤ 4294967296) (s1 : -4294967296 ≤ k.speed) (s2 : k.speed ≤ 4294967296) (l1 : -4294967296 ≤ d.level) (l2 : d.level ≤ 4294967296) :
    stepP c k d = tick c k d ∧ stepR c k d = tick c k d := by
  obtain ⟨e1, t1, t2⟩ := target_eq g d
  have r1 := g.ramp1; have r2 := g.ramp2; have k1 := g.leak1; have k2 := g.leak2; have k3 := g.sh; have k4 := g.fl; have k5 := g.fh; have k6 := g.fh2
  obtain ⟨a1, a2⟩ := tow_eq s1 s2 t1 t2 r1 r2
  have n := nums_of g
  have n1 := n.lev; have n2 := n.cr; have n3 := n.va; have n4 := n.ha; have n5 := n.ne; have n6 := n.ne2
  have b := clampR_bd (n := d.leak) (lo := 0) (hi := c.leak) k1
  have hl := lv_bd g (k := c.lv.length - 1) (by have := g.h2; omega)
  unfold stepP stepR tick buffered bufR
  rw [e1, a1, a2, clamp_eq k1, g.zero]
  have vb : ∃ v, v = (if k.speed < targetR c d then min (k.speed + c.ramp) (targetR c d) else max (k.speed - c.ramp) (targetR c d)) ∧ -4294968296 ≤ v ∧ v ≤ 4294968296 := by
    refine ⟨_, rfl, ?_, ?_⟩ <;> (split <;> omega)
  obtain ⟨v, hv, v1, v2⟩ := vb
  rw [← hv]
  dsimp only
  generalize clampR d.leak 0 c.leak = L at *
  rw [w64_id (x := v - L) (by omega) (by omega), w64_id (x := k.pos + v) (by omega) (by omega), w64_id (x := k.pos + v - L) (by omega) (by omega), w64_id (x := k.pos + (v - L)) (by omega) (by omega), w64_id (x := d.level - c.half) (by omega) (by omega), w64_id (x := 0 - c.half) (by omega) (by omega),
    w64_id (x := at0 c.lv (c.lv.length - 1) + c.half) (by omega) (by omega)]
  rw [show k.pos + (v - L) = k.pos + v - L by omega, show 0 - c.half = -c.half by omega]
  simp only [Bool.and_eq_true, decide_eq_true_eq, Int.max_comm 0, Int.min_comm 0]
  constructor <;> (split <;> rfl)

set_option maxHeartbeats 4000000 in
set_option maxRecDepth 100000 in
theorem law_RamSteps (c : Cfg) (k : Car) (d : Drv) (hb : c.lv.length < top) (ho : c.op.length < top) : CallV Try.prog G0 3 [c.enc, k.enc, d.enc] [] fun v _ => v = .c (.bool true) := by
  refine callV_ic hm (fn := Try.f3) rfl ic3_eq ic3_nm ic3_ok (by simp) ?_
  cases hf : fineB c
  · repeat' first
      | simp -dsimp [ic3, hf]
      | (with_reducible refine (CallD.pure ct_law12_awake (by simp) ?_).callV)
      | (with_reducible refine (CallD.pure (ct_law12_fine _ ho) (by simp) ?_).callV)
      | exact exitV.now rfl
  cases hn : near12 k d
  · repeat' first
      | simp -dsimp [ic3, hf, hn]
      | (with_reducible refine (CallD.pure ct_law12_awake (by simp) ?_).callV)
      | (with_reducible refine (CallD.pure (ct_law12_fine _ ho) (by simp) ?_).callV)
      | (with_reducible refine (CallD.pure (ct_ref12_Near _ _) (by simp) ?_).callV)
      | exact exitV.now rfl
  have g := fineB_good hf
  have hp : 0 < c.lv.length := by have := g.h2; omega
  have hk := near12_bd hn
  obtain ⟨e1, e2⟩ := step_eq g (k := k) (d := d) (by omega) (by omega) (by omega) (by omega) (by omega) (by omega)
  have e3 := (target_eq g d).1
  simp -dsimp [ic3]
  repeat' first
    | simp -dsimp [hf, hn, e1, e2, e3]
    | (with_reducible refine (CallD.pure ct_law12_awake (by simp) ?_).callV)
    | (with_reducible refine (CallD.pure (ct_law12_fine _ ho) (by simp) ?_).callV)
    | (with_reducible refine (CallD.pure (ct_ref12_Near _ _) (by simp) ?_).callV)
    | (with_reducible refine (CallD.pure (ct_ram_Step _ _ _ hb hp) (by simp) ?_).callV)
    | (with_reducible refine (CallD.pure (ct_ref12_Step _ _ _ hb hp) (by simp) ?_).callV)
    | (with_reducible refine CallD.pure (ct_ram_Step _ _ _ hb hp) (by simp) ?_)
    | (with_reducible refine CallD.pure (ct_ref12_Step _ _ _ hb hp) (by simp) ?_)
    | (with_reducible refine CallD.pure (ct_ram_Target _ _) (by simp) ?_)
    | (with_reducible refine CallD.pure (ct_ref12_Target _ _) (by simp) ?_)
    | (with_reducible refine ordI (by kernel_rfl) ?_)
    | (refine exitV.now ?_; simp; done)

end Go.Proofs.Ytmjhpniegjiocaa
