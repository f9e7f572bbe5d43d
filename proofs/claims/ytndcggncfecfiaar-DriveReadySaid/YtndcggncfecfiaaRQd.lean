/- Contracts of functions of the seat's program, and what follows of them: Qd. Conditions are in each statement. -/
import Derived.Test.YtndcggncfecfiaaRQc
import Derived.Test.YtndcggncfecfiaaRV6
set_option linter.unusedSimpArgs false
set_option linter.unusedVariables false
namespace Go.Proofs.YtndcggncfecfiaaR
open Go Go.Proofs Go.Vm

abbrev sl3 : V := .sl 1 3 0 1
/-- What is driven for a motion up. -/
def outU (m s : Int) : List V := [vi (if (s == 3) = true then m else 0), vb false, vb false, vb true, vb (s == 1), vb (s == 3)]
def outD (m : Int) : List V := [vi m, vb false, vb false, vb false, vb false, vb false]
set_option maxRecDepth 100000 in
theorem ct_driveA (m run st wi tick t s l : Int) (too : Bool) (h1 : 1 ≤ run) (h2 : 1 ≤ st) (hm1 : m = 1 ∨ m = 2) : Ct Try.prog G0 7 [.p 0 0, vi m] [dB, gB run st wi tick 0 nilS false too, sB t s l] (.agg (outU m (nx t s l).1)) [dB, gB run st wi (w64 (tick + 1)) 1 sl3 false false, sB t (nx t s l).1 (nx t s l).2, oneB tick] := by
  have f := ct_guardA run st wi tick too h1 h2
  have e := ct_star_Step1 t s l
  unfold outU
  unfold motC at e
  refine callV_ic hm (fn := Try.f7) rfl ic7_eq ic7_nm ic7_ok (by simp) ?_
  simp -dsimp [ic7]
  generalize nx t s l = y at *
  obtain ⟨y1, y2⟩ := y
  dsimp only at e ⊢
  rcases hm1 with rfl | rfl <;> cases hy : (y1 == 3)
  all_goals
    rw [hy] at e
    repeat' first
      | simp -dsimp [hy]
      | (with_reducible refine CallD.many (bs' := [gB run st wi (w64 (tick + 1)) 1 sl1 false false]) (nw := [oneB tick]) [1] [1] f (by simp [rho]) (by simp) (by simp) (by simp) (by simp) (by simp) (by simp) (by simp [rho]) ?_)
      | (with_reducible refine CallD.touch (i := 2) e (by simp) rfl (by simp) (by simp) (by simp) ?_)
      | (with_reducible refine ordI (by kernel_rfl) ?_)
  all_goals exact exitV.some' [0, 1, 2, 4] [dB, gB run st wi (w64 (tick + 1)) 1 sl3 false false, sB t y1 y2, oneB tick] (by simp) (by simp) (by decide) (by simp [rho]) (by simp) (by simp) (by simp) ⟨by simp, rfl⟩
set_option maxRecDepth 100000 in
theorem ct_driveB (m run st wi tick ran t s l : Int) (too : Bool) (hm1 : m = 1 ∨ m = 2) (h0 : ran ≠ 0) (h1 : ran < run) : Ct Try.prog G0 7 [.p 0 0, vi m] [dB, gB run st wi tick ran sl3 false too, sB t s l, oneB 0] (.agg (outU m (nx t s l).1)) [dB, gB run st wi (w64 (tick + 1)) (w64 (ran + 1)) sl3 false false, sB t (nx t s l).1 (nx t s l).2, oneB 0] := by
  have f := ct_guardB run st wi tick ran too h0 h1
  have e := ct_star_Step1 t s l
  unfold outU
  unfold motC at e
  refine callV_ic hm (fn := Try.f7) rfl ic7_eq ic7_nm ic7_ok (by simp) ?_
  simp -dsimp [ic7]
  generalize nx t s l = y at *
  obtain ⟨y1, y2⟩ := y
  dsimp only at e ⊢
  rcases hm1 with rfl | rfl <;> cases hy : (y1 == 3)
  all_goals
    rw [hy] at e
    repeat' first
      | simp -dsimp [hy]
      | (with_reducible refine CallD.many (bs' := [gB run st wi (w64 (tick + 1)) (w64 (ran + 1)) sl1 false false, oneB 0]) (nw := []) [1, 3] [1] f (by simp [rho]) (by simp) (by simp) (by simp) (by simp) (by simp) (by simp) (by simp [rho]) ?_)
      | (with_reducible refine CallD.touch (i := 2) e (by simp) rfl (by simp) (by simp) (by simp) ?_)
      | (with_reducible refine ordI (by kernel_rfl) ?_)
  all_goals exact exitV.some' [0, 1, 2, 3] [dB, gB run st wi (w64 (tick + 1)) (w64 (ran + 1)) sl3 false false, sB t y1 y2, oneB 0] (by simp) (by simp) (by decide) (by simp [rho]) (by simp) (by simp) (by simp) ⟨by simp, rfl⟩
set_option maxRecDepth 100000 in
theorem ct_driveC (m run st wi tick ran t s l : Int) (too : Bool) (hm1 : m = 1 ∨ m = 2) (h0 : ran ≠ 0) (h1 : run ≤ ran) : Ct Try.prog G0 7 [.p 0 0, vi m] [dB, gB run st wi tick ran sl3 false too, sB t s l, oneB 0] (.agg (outD 0)) [dB, gB run st wi (w64 (tick + 1)) 0 sl3 true false, sB t 0 l, oneB 0] := by
  have f := ct_guardC run st wi tick ran too h0 h1
  have e := ct_star_Step0 t s l
  unfold outD
  refine callV_ic hm (fn := Try.f7) rfl ic7_eq ic7_nm ic7_ok (by simp) ?_
  simp -dsimp [ic7]
  rcases hm1 with rfl | rfl
  all_goals
    repeat' first
      | simp -dsimp
      | (with_reducible refine CallD.many (bs' := [gB run st wi (w64 (tick + 1)) 0 sl1 true false, oneB 0]) (nw := []) [1, 3] [1] f (by simp [rho]) (by simp) (by simp) (by simp) (by simp) (by simp) (by simp) (by simp [rho]) ?_)
      | (with_reducible refine CallD.touch (i := 2) e (by simp) rfl (by simp) (by simp) (by simp) ?_)
      | (with_reducible refine ordI (by kernel_rfl) ?_)
  all_goals exact exitV.some' [0, 1, 2, 3] [dB, gB run st wi (w64 (tick + 1)) 0 sl3 true false, sB t 0 l, oneB 0] (by simp) (by simp) (by decide) (by simp [rho]) (by simp) (by simp) (by simp) ⟨by simp, rfl⟩
set_option maxRecDepth 100000 in
theorem ct_driveD (run st wi tick ran t s l : Int) (too : Bool) : Ct Try.prog G0 7 [.p 0 0, vi 4] [dB, gB run st wi tick ran sl3 false too, sB t s l, oneB 0] (.agg (outD 4)) [dB, gB run st wi (w64 (tick + 1)) 0 sl3 false false, sB t 0 l, oneB 0] := by
  have f := ct_guardD run st wi tick ran too 
  have e := ct_star_Step0 t s l
  unfold outD
  refine callV_ic hm (fn := Try.f7) rfl ic7_eq ic7_nm ic7_ok (by simp) ?_
  simp -dsimp [ic7]
  all_goals
    repeat' first
      | simp -dsimp
      | (with_reducible refine CallD.many (bs' := [gB run st wi (w64 (tick + 1)) 0 sl1 false false, oneB 0]) (nw := []) [1, 3] [1] f (by simp [rho]) (by simp) (by simp) (by simp) (by simp) (by simp) (by simp) (by simp [rho]) ?_)
      | (with_reducible refine CallD.touch (i := 2) e (by simp) rfl (by simp) (by simp) (by simp) ?_)
      | (with_reducible refine ordI (by kernel_rfl) ?_)
  all_goals exact exitV.some' [0, 1, 2, 3] [dB, gB run st wi (w64 (tick + 1)) 0 sl3 false false, sB t 0 l, oneB 0] (by simp) (by simp) (by decide) (by simp [rho]) (by simp) (by simp) (by simp) ⟨by simp, rfl⟩
set_option maxRecDepth 100000 in
theorem ct_drive_Long (run st wi tick ran t s l : Int) (long too : Bool) : Ct Try.prog G0 8 [.p 0 0] [dB, gB run st wi tick ran sl3 long too, sB t s l, oneB 0] (vb long) [dB, gB run st wi tick ran sl3 long too, sB t s l, oneB 0] := by
  have f := ct_guard_Long run st wi tick ran long too
  refine callV_ic hm (fn := Try.f8) rfl ic8_eq ic8_nm ic8_ok (by simp) ?_
  simp -dsimp [ic8]
  repeat' first
    | simp -dsimp
    | (with_reducible refine (CallD.many (bs' := [gB run st wi tick ran sl1 long too, oneB 0]) (nw := []) [1, 3] [] f (by simp [rho]) (by simp) (by simp) (by simp) (by simp) (by simp) (by simp) (by simp [rho]) ?_).callV)
    | (with_reducible refine ordI (by kernel_rfl) ?_)
  exact exitV.now ⟨rfl, by simp [rho]⟩
set_option maxRecDepth 100000 in
theorem ct_drive_Often (run st wi tick ran t s l : Int) (long too : Bool) : Ct Try.prog G0 9 [.p 0 0] [dB, gB run st wi tick ran sl3 long too, sB t s l, oneB 0] (vb too) [dB, gB run st wi tick ran sl3 long too, sB t s l, oneB 0] := by
  have f := ct_guard_Often run st wi tick ran long too
  refine callV_ic hm (fn := Try.f9) rfl ic9_eq ic9_nm ic9_ok (by simp) ?_
  simp -dsimp [ic9]
  repeat' first
    | simp -dsimp
    | (with_reducible refine (CallD.many (bs' := [gB run st wi tick ran sl1 long too, oneB 0]) (nw := []) [1, 3] [] f (by simp [rho]) (by simp) (by simp) (by simp) (by simp) (by simp) (by simp) (by simp [rho]) ?_).callV)
    | (with_reducible refine ordI (by kernel_rfl) ?_)
  exact exitV.now ⟨rfl, by simp [rho]⟩
end Go.Proofs.YtndcggncfecfiaaR
