/- Contracts of functions of the seat's program, and what follows of them: Qb. Conditions are in each statement. -/
import Derived.Test.YtndcggncfecfiaaRQa
import Derived.Test.YtndcggncfecfiaaRV5
set_option linter.unusedSimpArgs false
set_option linter.unusedVariables false
namespace Go.Proofs.YtndcggncfecfiaaR
open Go Go.Proofs Go.Vm

/-- What a starter does next, in which the motor is wanted. -/
def nx1 (t s l : Int) : Int × Int := if (s == 0) = true then (1, t) else if (s == 2) = true then (3, l) else (s, l)
def nx (t s l : Int) : Int × Int := if ((nx1 t s l).1 == 1) = true then (if ((nx1 t s l).2 == 0) = true then 2 else (nx1 t s l).1, w64 ((nx1 t s l).2 - 1)) else nx1 t s l
set_option maxRecDepth 100000 in
theorem ct_next (t s l : Int) : Ct Try.prog G0 20 [.p 0 0] [sB t s l] (.tup []) [sB t (nx t s l).1 (nx t s l).2] := by
  refine callV_ic hm (fn := Try.f20) rfl ic20_eq ic20_nm ic20_ok (by simp) ?_
  simp -dsimp [ic20]
  cases h1 : (s == 0)
  · cases h2 : (s == 2)
    · cases h3 : (s == 1)
      · repeat' first
          | simp -dsimp [h1, h2, h3]
          | exact exitV.now ⟨rfl, by simp [nx, nx1, h1, h2, h3]⟩
      · cases h4 : (l == 0)
        · repeat' first
            | simp -dsimp [h1, h2, h3, h4]
            | exact exitV.now ⟨rfl, by simp [nx, nx1, h1, h2, h3, h4]⟩
        · repeat' first
            | simp -dsimp [h1, h2, h3, h4]
            | exact exitV.now ⟨rfl, by simp [nx, nx1, h1, h2, h3, h4]⟩
    · repeat' first
        | simp -dsimp [h1, h2]
        | exact exitV.now ⟨rfl, by simp [nx, nx1, h1, h2]⟩
  · cases h4 : (t == 0)
    · repeat' first
        | simp -dsimp [h1, h4]
        | exact exitV.now ⟨rfl, by simp [nx, nx1, h1, h4]⟩
    · repeat' first
        | simp -dsimp [h1, h4]
        | exact exitV.now ⟨rfl, by simp [nx, nx1, h1, h4]⟩
def motC (s : Int) : List V := [vb true, vb (s == 1), vb (s == 3), vb (s == 3)]
theorem ct_star_Step1 (t s l : Int) : Ct Try.prog G0 14 [.p 0 0, vb true] [sB t s l] (.agg (motC (nx t s l).1)) [sB t (nx t s l).1 (nx t s l).2] := by
  have n := ct_next t s l
  refine callV_ic hm (fn := Try.f14) rfl ic14_eq ic14_nm ic14_ok (by simp) ?_
  simp -dsimp [ic14]
  generalize nx t s l = y at *
  repeat' first
    | simp -dsimp
    | (with_reducible refine (CallD.touch (i := 0) n (by simp) rfl (by simp) (by simp) (by simp) ?_).callV)
    | (with_reducible refine ordI (by kernel_rfl) ?_)
  exact exitV.cut (by simp) (by simp) (by simp) (by simp) ⟨by simp [motC], by simp⟩
theorem ct_star_Step0 (t s l : Int) : Ct Try.prog G0 14 [.p 0 0, vb false] [sB t s l] (.agg [vb false, vb false, vb false, vb false]) [sB t 0 l] := by
  refine callV_ic hm (fn := Try.f14) rfl ic14_eq ic14_nm ic14_ok (by simp) ?_
  simp -dsimp [ic14]
  repeat' first
    | simp -dsimp
    | (with_reducible refine ordI (by kernel_rfl) ?_)
  exact exitV.cut (by simp) (by simp) (by simp) (by simp) ⟨rfl, by simp⟩
end Go.Proofs.YtndcggncfecfiaaR
