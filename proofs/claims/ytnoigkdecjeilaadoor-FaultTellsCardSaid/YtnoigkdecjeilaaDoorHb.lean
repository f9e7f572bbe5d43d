/- Contracts of functions of the seat's program, and what follows of them: Hb. Conditions are in each statement. -/
import Derived.Test.YtnoigkdecjeilaaDoorHa
set_option linter.unusedSimpArgs false
set_option linter.unusedVariables false
namespace Go.Proofs.YtnoigkdecjeilaaDoor
open Go Go.Proofs Go.Vm Go.Extern
set_option maxRecDepth 100000
variable {G : Addr → Option Value}

theorem ct_log10Pow2 (x : Int) (h0 : 0 ≤ x) (h1 : x ≤ 64) : Ct Tryd.prog G 48 [vi x] [] (vi (x * 78913 / 262144)) [] := by
  have a : IntKind.wrap .i64 (x * 78913) = x * 78913 := w64_of (by omega) (by omega)
  have s1 : (2 : Int) ^ min 18 (IntKind.bits .i64) = 262144 := by decide
  refine callV_ic hm (fn := Tryd.f48) rfl ic48_eq ic48_nm ic48_ok (by simp) ?_
  simp -dsimp [ic48]
  repeat' first
    | simp -dsimp [a, s1]
    | (with_reducible refine ordI (by kernel_rfl) ?_)
  exact exitV.cut (by simp) (by simp) (by simp) (by simp) ⟨rfl, by simp⟩
theorem ct_bool2 (b : Bool) : Ct Tryd.prog G 50 [vb b] [] (vi (if b then 1 else 0)) [] := by
  refine callV_ic hm (fn := Tryd.f50) rfl ic50_eq ic50_nm ic50_ok (by simp) ?_
  simp -dsimp [ic50]
  cases b
  all_goals
    repeat' first
      | simp -dsimp
      | (with_reducible refine ordI (by kernel_rfl) ?_)
    exact exitV.cut (by simp) (by simp) (by simp) (by simp) ⟨rfl, by simp⟩
theorem ex_numDigits (g : GoodG G) (u : Int) (h0 : 0 ≤ u) : ∃ r : Nat, r ≤ 20 ∧ Ct Tryd.prog G 45 [vu u] [] (vi r) [] := by
  obtain ⟨l, l0, l1, cl⟩ := ex_Len64 (G := G) u h0
  have cp := ct_log10Pow2 (G := G) l l0 l1
  obtain ⟨nd, hnd⟩ : ∃ nd : Nat, l * 78913 / 262144 = nd := ⟨(l * 78913 / 262144).toNat, by omega⟩
  rw [hnd] at cp
  have hlt : nd < 20 := by omega
  have hlt' : (nd : Int) < 20 := by omega
  obtain ⟨m, hm'⟩ := g.2 nd hlt
  have cb := ct_bool2 (G := G) (decide (m ≤ u))
  obtain ⟨b, hb, hb1⟩ : ∃ b : Nat, (if decide (m ≤ u) then (1 : Int) else 0) = (b : Int) ∧ b ≤ 1 := by
    cases decide (m ≤ u)
    · exact ⟨0, rfl, by omega⟩
    · exact ⟨1, rfl, by omega⟩
  rw [hb] at cb
  have a : IntKind.wrap .i64 ((nd : Int) + (b : Int)) = ((nd + b : Nat) : Int) := by rw [w64_of (by omega) (by omega)]; omega
  refine ⟨nd + b, by omega, ?_⟩
  refine callV_ic hm (fn := Tryd.f45) rfl ic45_eq ic45_nm ic45_ok (by simp) ?_
  simp -dsimp [ic45]
  repeat' first
    | simp -dsimp [hlt, hlt', hm', a]
    | (with_reducible refine (CallD.pure (cl) (by simp) ?_).callV)
    | (with_reducible refine (CallD.pure (cp) (by simp) ?_).callV)
    | (with_reducible refine (CallD.pure (cb) (by simp) ?_).callV)
    | (with_reducible refine ordI (by kernel_rfl) ?_)
  exact exitV.cut (by simp) (by simp) (by simp) (by simp) ⟨rfl, by simp⟩
end Go.Proofs.YtnoigkdecjeilaaDoor
