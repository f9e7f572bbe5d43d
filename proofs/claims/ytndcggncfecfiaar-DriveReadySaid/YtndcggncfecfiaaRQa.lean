/- Contracts of functions of the seat's program, and what follows of them: Qa. Conditions are in each statement. -/
import Derived.Test.YtndcggncfecfiaaRPq
set_option linter.unusedSimpArgs false
set_option linter.unusedVariables false
namespace Go.Proofs.YtndcggncfecfiaaR
open Go Go.Proofs Go.Vm

abbrev heldP (x m : Int) : Int := max 1 (min x m)
theorem ct_held (x m : Int) : Ct Try.prog G0 19 [vi x, vi m] [] (vi (heldP x m)) [] := by
  refine callV_ic hm (fn := Try.f19) rfl ic19_eq ic19_nm ic19_ok (by simp) ?_
  simp -dsimp [ic19]
  repeat' first
    | simp -dsimp [*]
    | (with_reducible refine exitV.cut (by simp) (by simp) (by simp) (by simp) ⟨?_, by simp⟩)
/-- What guards a motor; what starts it; what has both. -/
abbrev gB (run st wi tick ran : Int) (ss : V) (long too : Bool) : Blk := .cells 59 [vi run, vi st, vi wi, vi tick, vi ran, ss, vb long, vb too]
abbrev sB (t s l : Int) : Blk := .cells 61 [vi t, vi s, vi l]
abbrev dB : Blk := .cells 52 [.p 1 0, .p 2 0]
abbrev nilS : V := .c (.slice none 0 0)
theorem ct_pump_New (a b c : Int) : Ct Try.prog G0 12 [.agg [vi a, vi b, vi c]] [] (.p 0 0) [gB (heldP a 1000000) (heldP b 100) (heldP c 1000000) 0 0 nilS false false] := by
  refine callV_ic hm (fn := Try.f12) rfl ic12_eq ic12_nm ic12_ok (by simp) ?_
  simp -dsimp [ic12]
  repeat' first
    | simp -dsimp [*]
    | (with_reducible refine (CallD.pure (ct_held _ _) (by simp) ?_))
    | (with_reducible refine ordI (by kernel_rfl) ?_)
    | (refine exitV.one (gB (heldP a 1000000) (heldP b 100) (heldP c 1000000) 0 0 nilS false false) 1 (.p 0 0) (by simp) (by simp) rfl (by simp) (by simp) ⟨rfl, rfl⟩)
theorem ct_star_New (t : Int) : Ct Try.prog G0 13 [vi t] [] (.p 0 0) [sB (max 0 (min t 500)) 0 0] := by
  refine callV_ic hm (fn := Try.f13) rfl ic13_eq ic13_nm ic13_ok (by simp) ?_
  simp -dsimp [ic13]
  repeat' first
    | simp -dsimp [*]
    | (with_reducible refine ordI (by kernel_rfl) ?_)
    | exact exitV.now ⟨rfl, rfl⟩
theorem ct_drive_New (c : Cfg) : Ct Try.prog G0 6 [c.enc] [] (.p 0 0) [dB, gB (heldP c.run 1000000) (heldP c.starts 100) (heldP c.within 1000000) 0 0 nilS false false, sB (max 0 (min c.star 500)) 0 0] := by
  refine callV_ic hm (fn := Try.f6) rfl ic6_eq ic6_nm ic6_ok (by simp) ?_
  simp -dsimp [ic6]
  repeat' first
    | simp -dsimp [*]
    | (with_reducible refine CallD.fresh (ct_pump_New _ _ _) (by simp) ?_)
    | (with_reducible refine CallD.fresh (ct_star_New _) (by simp) ?_)
    | (with_reducible refine ordI (by kernel_rfl) ?_)
  refine exitV.drop [dB, gB (heldP c.run 1000000) (heldP c.starts 100) (heldP c.within 1000000) 0 0 nilS false false, sB (max 0 (min c.star 500)) 0 0] (fun i => if i = 0 then 3 else i) (.p 0 0) (by simp) (by simp) (by simp) ?_ ?_ (by simp) (by simp) (by simp) ⟨rfl, rfl⟩
  · intro i j h1 h2 h
    simp at h1 h2 h
    split at h <;> split at h <;> omega
  · intro i k hk
    match i, hk with
    | 0, hk => simp at hk; subst hk; simp
    | 1, hk => simp at hk; subst hk; simp
    | 2, hk => simp at hk; subst hk; simp
end Go.Proofs.YtndcggncfecfiaaR
