/- Contracts of functions of the seat's program, and what follows of them: Qe. Conditions are in each statement. -/
import Derived.Test.YtndcggncfecfiaaRQd
set_option linter.unusedSimpArgs false
set_option linter.unusedVariables false
namespace Go.Proofs.YtndcggncfecfiaaR
open Go Go.Proofs Go.Vm

@[simp] theorem flat_out : flat Try.prog 40 37 = some [.i, .b, .b, .b, .b, .b] := by kernel_rfl
@[simp] theorem guard_out : Try.prog.eqGuardType Try.prog.depth 37 = false := by kernel_rfl
def s22 : Sm := ⟨0, 0, 0, 0, 0, 0, 0, 0, 0, 0, 0, 0, 0, 1, 9, 9, 0, 0, 0, 0⟩
theorem s22_ok : s22.ok := by constructor <;> simp [by8, by16, s22]
theorem nx_a : nx 1 0 0 = (1, 0) := by decide +kernel
theorem nx_b : nx 1 1 0 = (2, -1) := by decide +kernel
theorem nx_c : nx 1 2 (-1) = (3, -1) := by decide +kernel
set_option maxRecDepth 100000 in
set_option maxHeartbeats 4000000 in
theorem ct_law22_awake : Ct Try.prog G0 4 [] [] (vb true) [] := by
  obtain ⟨l, lok, ⟨l1, l2⟩, hL⟩ := ct_LiftX s22 s22_ok
  have e1 : l.cfg.star = 1 := by show l.star = 1; rw [l1]; decide
  have e2 : l.cfg.run = 10 := by show l.run = 10; rw [l2]; decide
  have N := ct_drive_New l.cfg
  have r1 := lok.starts
  obtain ⟨st, hst, hs1⟩ : ∃ st, st = heldP l.cfg.starts 100 ∧ 1 ≤ st := ⟨_, rfl, by show 1 ≤ max 1 _; omega⟩
  rw [e1, e2, ← hst, show heldP 10 1000000 = 10 by decide, show max (0 : Int) (min 1 500) = 1 by decide] at N
  clear hst e1 e2
  generalize l.cfg = c at *
  generalize heldP c.within 1000000 = wi at *
  have f1 := ct_driveA 1 10 st wi 0 1 0 0 false (by decide) hs1 (.inl rfl)
  have f2 := ct_driveB 1 10 st wi 1 1 1 1 0 false (.inl rfl) (by decide) (by decide)
  have f3 := ct_driveB 1 10 st wi 2 2 1 2 (-1) false (.inl rfl) (by decide) (by decide)
  have f4 := ct_driveD 10 st wi 3 3 1 3 (-1) false
  have w1 : w64 (0 + 1) = 1 := by decide
  have w2 : w64 (1 + 1) = 2 := by decide
  have w3 : w64 (2 + 1) = 3 := by decide
  have w4 : w64 (3 + 1) = 4 := by decide
  rw [nx_a, w1] at f1
  rw [nx_b, w2] at f2
  rw [nx_c, w3] at f3
  rw [w4] at f4
  simp only [outU, outD, Sm.enc, Sm.cells, s22] at f1 f2 f3 f4 hL
  simp at f1 f2 f3
  refine callV_ic hm (fn := Try.f4) rfl ic4_eq ic4_nm ic4_ok (by simp) ?_
  simp -dsimp [ic4]
  repeat' first
    | simp -dsimp [rho]
    | (with_reducible refine (CallD.pure (hL) (by simp) ?_).callV)
    | (with_reducible refine (CallD.fresh N (by simp) ?_).callV)
    | (with_reducible refine ordI (by kernel_rfl) ?_)
  refine (CallD.many (bs' := [dB, gB 10 st wi 1 1 sl3 false false, sB 1 1 0]) (nw := [oneB 0]) [0, 1, 2] [1, 2] f1 (by simp [rho]) (by simp) (by simp) (by simp) (by simp) (by simp) (by simp) (by simp [rho]) ?_).callV
  repeat' first
    | simp -dsimp [rho]
    | (with_reducible refine (CallD.pure (hL) (by simp) ?_).callV)
    | (with_reducible refine (CallD.fresh N (by simp) ?_).callV)
    | (with_reducible refine ordI (by kernel_rfl) ?_)
  refine (CallD.many (bs' := [dB, gB 10 st wi 2 2 sl3 false false, sB 1 2 (-1), oneB 0]) (nw := []) [0, 1, 2, 3] [1, 2] f2 (by simp [rho]) (by simp) (by simp) (by simp) (by simp) (by simp) (by simp) (by simp [rho]) ?_).callV
  repeat' first
    | simp -dsimp [rho]
    | (with_reducible refine (CallD.pure (hL) (by simp) ?_).callV)
    | (with_reducible refine (CallD.fresh N (by simp) ?_).callV)
    | (with_reducible refine ordI (by kernel_rfl) ?_)
  refine (CallD.many (bs' := [dB, gB 10 st wi 3 3 sl3 false false, sB 1 3 (-1), oneB 0]) (nw := []) [0, 1, 2, 3] [1, 2] f3 (by simp [rho]) (by simp) (by simp) (by simp) (by simp) (by simp) (by simp) (by simp [rho]) ?_).callV
  repeat' first
    | simp -dsimp [rho]
    | (with_reducible refine (CallD.pure (hL) (by simp) ?_).callV)
    | (with_reducible refine (CallD.fresh N (by simp) ?_).callV)
    | (with_reducible refine ordI (by kernel_rfl) ?_)
  refine (CallD.many (bs' := [dB, gB 10 st wi 4 0 sl3 false false, sB 1 0 (-1), oneB 0]) (nw := []) [0, 1, 2, 3] [1, 2] f4 (by simp [rho]) (by simp) (by simp) (by simp) (by simp) (by simp) (by simp) (by simp [rho]) ?_).callV
  repeat' first
    | simp -dsimp [rho]
    | (with_reducible refine (CallD.pure (hL) (by simp) ?_).callV)
    | (with_reducible refine (CallD.fresh N (by simp) ?_).callV)
    | (with_reducible refine ordI (by kernel_rfl) ?_)
  exact exitV.cut (by simp) (by simp) (by simp) (by simp) ⟨rfl, by simp⟩
theorem ct_law22_end : True := trivial
/-- Where a starter is after so many ticks. -/
def stS (T q : Int) : Int := if q = 0 then 0 else if q ≤ T then 1 else if q = T + 1 then 2 else 3
def stL (T q : Int) : Int := if q = 0 then 0 else if q ≤ T then T - q else -1
theorem nx_st {T q : Int} (h1 : 0 ≤ T) (h2 : T ≤ 500) (h3 : 0 ≤ q) : nx T (stS T q) (stL T q) = (stS T (q + 1), stL T (q + 1)) := by
  have w1 : w64 (T - 1) = T - 1 := w64_of (by omega) (by omega)
  by_cases a : q = 0
  · by_cases b : T = 0
    · simp [nx, nx1, stS, stL, a, b]; decide
    · have c : 1 ≤ T := by omega
      simp [nx, nx1, stS, stL, a, b, c, w1]
  · have a' : q + 1 ≠ 0 := by omega
    by_cases b : q ≤ T
    · by_cases c : q = T
      · have d : ¬ T + 1 ≤ T := by omega
        have w3 : w64 (-1) = -1 := by decide
        subst c
        simp [nx, nx1, stS, stL, a, a', d]; decide
      · have d : q + 1 ≤ T := by omega
        have e : ¬ T - q = 0 := by omega
        have w2 : w64 (T - q - 1) = T - q - 1 := w64_of (by omega) (by omega)
        simp [nx, nx1, stS, stL, a, a', b, d, e, w2]; omega
    · by_cases c : q = T + 1
      · subst c
        have d : ¬ T + 1 + 1 ≤ T := by omega
        have e : ¬ T + 1 + 1 = T + 1 := by omega
        have f : ¬ T + 1 ≤ T := by omega
        simp [nx, nx1, stS, stL, a, a', d, e, f]
      · have d : ¬ q + 1 ≤ T := by omega
        have e : ¬ q + 1 = T + 1 := by omega
        simp [nx, nx1, stS, stL, a, a', b, c, d, e]
end Go.Proofs.YtndcggncfecfiaaR
