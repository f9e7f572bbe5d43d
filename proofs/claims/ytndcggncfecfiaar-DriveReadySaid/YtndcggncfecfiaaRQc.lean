/- Contracts of functions of the seat's program, and what follows of them: Qc. Conditions are in each statement. -/
import Derived.Test.YtndcggncfecfiaaRQb
set_option linter.unusedSimpArgs false
set_option linter.unusedVariables false
namespace Go.Proofs.YtndcggncfecfiaaR
open Go Go.Proofs Go.Vm

theorem ct_forget (run st wi tick ran : Int) (long too : Bool) : Ct Try.prog G0 22 [.p 0 0] [gB run st wi tick ran nilS long too] (.tup []) [gB run st wi tick ran nilS long too] := by
  refine callV_ic hm (fn := Try.f22) rfl ic22_eq ic22_nm ic22_ok (by simp) ?_
  simp -dsimp [ic22]
  refine Ti.scope0 hm ?_
  simp -dsimp
  refine Ti.unroll hm 1 ?_
  repeat' first
    | simp -dsimp
    | (with_reducible refine ordI (by kernel_rfl) ?_)
    | exact exitV.now ⟨rfl, rfl⟩
abbrev oneB (x : Int) : Blk := .cells 3 [vi x]
abbrev sl1 : V := .sl 1 1 0 1
set_option maxRecDepth 100000 in
theorem ct_runsA (run st wi tick : Int) (too : Bool) (h1 : 1 ≤ run) (h2 : 1 ≤ st) : Ct Try.prog G0 21 [.p 0 0, vb true] [gB run st wi tick 0 nilS false too] (vb true) [gB run st wi tick 0 sl1 false too, oneB tick] := by
  have f := ct_forget run st wi tick 0 false too
  have e1 : ¬ st ≤ 0 := by omega
  have e2 : ¬ run ≤ 0 := by omega
  refine callV_ic hm (fn := Try.f21) rfl ic21_eq ic21_nm ic21_ok (by simp) ?_
  simp -dsimp [ic21]
  repeat' first
    | simp -dsimp [e1, e2]
    | (with_reducible refine (CallD.touch (i := 0) f (by simp) rfl (by simp) (by simp) (by simp) ?_).callV)
    | (with_reducible refine ordI (by kernel_rfl) ?_)
  refine exitV.drop [gB run st wi tick 0 sl1 false too, oneB tick] (fun i => if i = 1 then 2 else i) (vb true) (by simp) (by simp) (by intro i hi; rw [if_neg (by omega)]) ?_ ?_ (by simp) (by simp) (by simp) ⟨rfl, rfl⟩
  · intro i j h1 h2 h
    simp at h1 h2 h
    split at h <;> split at h <;> omega
  · intro i k hk
    match i, hk with
    | 0, hk => simp at hk; subst hk; simp
    | 1, hk => simp at hk; subst hk; simp
set_option maxRecDepth 100000 in
theorem ct_runsB (run st wi tick ran : Int) (too : Bool) (h0 : ran ≠ 0) (h1 : ran < run) : Ct Try.prog G0 21 [.p 0 0, vb true] [gB run st wi tick ran sl1 false too, oneB 0] (vb true) [gB run st wi tick ran sl1 false too, oneB 0] := by
  have e1 : (ran == 0) = false := beq_eq_false_iff_ne.2 h0
  have e2 : ¬ run ≤ ran := by omega
  refine callV_ic hm (fn := Try.f21) rfl ic21_eq ic21_nm ic21_ok (by simp) ?_
  simp -dsimp [ic21]
  repeat' first
    | simp -dsimp [e1, e2]
    | (with_reducible refine ordI (by kernel_rfl) ?_)
  exact exitV.now ⟨rfl, rfl⟩
set_option maxRecDepth 100000 in
theorem ct_runsC (run st wi tick ran : Int) (too : Bool) (h0 : ran ≠ 0) (h1 : run ≤ ran) : Ct Try.prog G0 21 [.p 0 0, vb true] [gB run st wi tick ran sl1 false too, oneB 0] (vb false) [gB run st wi tick ran sl1 true too, oneB 0] := by
  have e1 : (ran == 0) = false := beq_eq_false_iff_ne.2 h0
  refine callV_ic hm (fn := Try.f21) rfl ic21_eq ic21_nm ic21_ok (by simp) ?_
  simp -dsimp [ic21]
  repeat' first
    | simp -dsimp [e1, h1]
    | (with_reducible refine ordI (by kernel_rfl) ?_)
  exact exitV.now ⟨rfl, rfl⟩
set_option maxRecDepth 100000 in
theorem ct_runsD (run st wi tick ran : Int) (too : Bool) : Ct Try.prog G0 21 [.p 0 0, vb false] [gB run st wi tick ran sl1 false too, oneB 0] (vb false) [gB run st wi tick ran sl1 false too, oneB 0] := by
  refine callV_ic hm (fn := Try.f21) rfl ic21_eq ic21_nm ic21_ok (by simp) ?_
  simp -dsimp [ic21]
  repeat' first
    | simp -dsimp
    | (with_reducible refine ordI (by kernel_rfl) ?_)
  exact exitV.now ⟨rfl, rfl⟩
/-- Ticks of a guard. -/
theorem ct_guardA (run st wi tick : Int) (too : Bool) (h1 : 1 ≤ run) (h2 : 1 ≤ st) : Ct Try.prog G0 15 [.p 0 0, vb true] [gB run st wi tick 0 nilS false too] (vb true) [gB run st wi (w64 (tick + 1)) 1 sl1 false false, oneB tick] := by
  have f := ct_runsA run st wi tick false h1 h2
  refine callV_ic hm (fn := Try.f15) rfl ic15_eq ic15_nm ic15_ok (by simp) ?_
  simp -dsimp [ic15]
  have w1 : IntKind.wrap .i64 1 = 1 := by decide
  repeat' first
    | simp -dsimp [w1]
    | (with_reducible refine (CallD.many (bs' := [gB run st wi tick 0 sl1 false false]) (nw := [oneB tick]) [0] [0] f (by simp) (by simp) (by simp) (by simp) (by simp) (by simp) (by simp) (by simp [rho]) ?_).callV)
    | (with_reducible refine ordI (by kernel_rfl) ?_)
  exact exitV.now ⟨rfl, rfl⟩
theorem ct_guardB (run st wi tick ran : Int) (too : Bool) (h0 : ran ≠ 0) (h1 : ran < run) : Ct Try.prog G0 15 [.p 0 0, vb true] [gB run st wi tick ran sl1 false too, oneB 0] (vb true) [gB run st wi (w64 (tick + 1)) (w64 (ran + 1)) sl1 false false, oneB 0] := by
  have f := ct_runsB run st wi tick ran false h0 h1
  refine callV_ic hm (fn := Try.f15) rfl ic15_eq ic15_nm ic15_ok (by simp) ?_
  simp -dsimp [ic15]
  repeat' first
    | simp -dsimp
    | (with_reducible refine (CallD.many (bs' := [gB run st wi tick ran sl1 false false, oneB 0]) (nw := []) [0, 1] [] f (by simp [rho]) (by simp) (by simp) (by simp) (by simp) (by simp) (by simp) (by simp [rho]) ?_).callV)
    | (with_reducible refine ordI (by kernel_rfl) ?_)
  exact exitV.now ⟨rfl, rfl⟩
theorem ct_guardC (run st wi tick ran : Int) (too : Bool) (h0 : ran ≠ 0) (h1 : run ≤ ran) : Ct Try.prog G0 15 [.p 0 0, vb true] [gB run st wi tick ran sl1 false too, oneB 0] (vb false) [gB run st wi (w64 (tick + 1)) 0 sl1 true false, oneB 0] := by
  have f := ct_runsC run st wi tick ran false h0 h1
  refine callV_ic hm (fn := Try.f15) rfl ic15_eq ic15_nm ic15_ok (by simp) ?_
  simp -dsimp [ic15]
  repeat' first
    | simp -dsimp
    | (with_reducible refine (CallD.many (bs' := [gB run st wi tick ran sl1 true false, oneB 0]) (nw := []) [0, 1] [0] f (by simp [rho]) (by simp) (by simp) (by simp) (by simp) (by simp) (by simp) (by simp [rho]) ?_).callV)
    | (with_reducible refine ordI (by kernel_rfl) ?_)
  exact exitV.now ⟨rfl, rfl⟩
theorem ct_guardD (run st wi tick ran : Int) (too : Bool) : Ct Try.prog G0 15 [.p 0 0, vb false] [gB run st wi tick ran sl1 false too, oneB 0] (vb false) [gB run st wi (w64 (tick + 1)) 0 sl1 false false, oneB 0] := by
  have f := ct_runsD run st wi tick ran false
  refine callV_ic hm (fn := Try.f15) rfl ic15_eq ic15_nm ic15_ok (by simp) ?_
  simp -dsimp [ic15]
  repeat' first
    | simp -dsimp
    | (with_reducible refine (CallD.many (bs' := [gB run st wi tick ran sl1 false false, oneB 0]) (nw := []) [0, 1] [] f (by simp [rho]) (by simp) (by simp) (by simp) (by simp) (by simp) (by simp) (by simp [rho]) ?_).callV)
    | (with_reducible refine ordI (by kernel_rfl) ?_)
  exact exitV.now ⟨rfl, rfl⟩
theorem ct_guard_Long (run st wi tick ran : Int) (long too : Bool) : Ct Try.prog G0 16 [.p 0 0] [gB run st wi tick ran sl1 long too, oneB 0] (vb long) [gB run st wi tick ran sl1 long too, oneB 0] := by
  refine callV_ic hm (fn := Try.f16) rfl ic16_eq ic16_nm ic16_ok (by simp) ?_
  simp -dsimp [ic16]
  exact exitV.now ⟨rfl, rfl⟩
theorem ct_guard_Often (run st wi tick ran : Int) (long too : Bool) : Ct Try.prog G0 17 [.p 0 0] [gB run st wi tick ran sl1 long too, oneB 0] (vb too) [gB run st wi tick ran sl1 long too, oneB 0] := by
  refine callV_ic hm (fn := Try.f17) rfl ic17_eq ic17_nm ic17_ok (by simp) ?_
  simp -dsimp [ic17]
  exact exitV.now ⟨rfl, rfl⟩
end Go.Proofs.YtndcggncfecfiaaR
