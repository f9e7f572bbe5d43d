/- Contracts of functions of the seat's program, and what follows of them: He. Conditions are in each statement. -/
import Derived.Test.YtnoigkdecjeilaaDoorHd
import Derived.Test.YtnoigkdecjeilaaDoorFp
set_option linter.unusedSimpArgs false
set_option linter.unusedVariables false
namespace Go.Proofs.YtnoigkdecjeilaaDoor
open Go Go.Proofs Go.Vm Go.Extern
set_option maxRecDepth 100000
set_option linter.unusedSimpArgs false
variable {G : Addr → Option Value}

theorem mid_range (t : Int) : 0 ≤ mid t ∧ mid t ≤ 1099511627775 := by unfold mid; omega
theorem mid_id {t : Int} (h0 : 0 ≤ t) (h1 : t ≤ 1099511627775) : mid t = t := by unfold mid; omega
set_option maxHeartbeats 8000000 in
theorem law_FaultWraps (g : GoodG G) (kind tick : Int) (a b : List UInt8) : CallV Tryd.prog G 4 [vi kind, vi tick, vs a, vs b] [] fun v _ => v = .c (.bool true) := by
  have aw := ct_law02_awake.moreG g.1
  have cc := (ct_ref02_Can kind).moreG g.1
  have o0 := ct_Of0.moreG g.1
  have i0 := (ct_fault_IsNo kind).moreG g.1
  have p0 := ct_Path0.moreG g.1
  have w0 := (ct_fault_WrapNo a).moreG g.1
  have wb0 := (ct_fault_WrapNo b).moreG g.1
  refine callV_ic hm (fn := Tryd.f4) rfl ic4_eq ic4_nm ic4_ok (by simp) ?_
  by_cases c1 : 100 < a.length
  · have c1' : (100 : Int) < a.length := by omega
    repeat' first
      | simp -dsimp [ic4, ba_size, c1, c1']
      | (with_reducible refine (CallD.pure (aw) (by simp) ?_).callV)
      | (with_reducible refine ordI (by kernel_rfl) ?_)
    exact exitV.now rfl
  have c1' : ¬ (100 : Int) < a.length := by omega
  by_cases c2 : 100 < b.length
  · have c2' : (100 : Int) < b.length := by omega
    repeat' first
      | simp -dsimp [ic4, ba_size, c1, c1', c2, c2']
      | (with_reducible refine (CallD.pure (aw) (by simp) ?_).callV)
      | (with_reducible refine ordI (by kernel_rfl) ?_)
    exact exitV.now rfl
  have c2' : ¬ (100 : Int) < b.length := by omega
  cases c : canP kind
  · rw [c] at cc
    have n := (ct_fault_NewNo kind tick c).moreG g.1
    repeat' first
      | simp -dsimp [ic4, ba_size, c1, c1', c2, c2']
      | (with_reducible refine (CallD.pure (aw) (by simp) ?_).callV)
      | (with_reducible refine (CallD.pure (n) (by simp) ?_).callV)
      | (with_reducible refine (CallD.pure (o0) (by simp) ?_).callV)
      | (with_reducible refine (CallD.pure (w0) (by simp) ?_).callV)
      | (with_reducible refine (CallD.pure (wb0) (by simp) ?_).callV)
      | (with_reducible refine (CallD.pure (cc) (by simp) ?_).callV)
      | (with_reducible refine (CallD.pure (i0) (by simp) ?_).callV)
      | (with_reducible refine (CallD.pure (p0) (by simp) ?_).callV)
      | (with_reducible refine ordI (by kernel_rfl) ?_)
    exact exitV.now rfl
  rw [c] at cc
  obtain ⟨j, hj, j1, j2⟩ := canP_nat c
  obtain ⟨m0, m1⟩ := mid_range tick
  obtain ⟨t, ht⟩ : ∃ t : Nat, mid tick = t := ⟨(mid tick).toNat, by omega⟩
  have n := (ct_fault_New kind tick c).moreG g.1
  obtain ⟨F, hF, cF⟩ := ex_FaultError g j t (by omega) (by omega)
  have oe := (ct_Of (Er.s kind (mid tick))).moreG g.1
  have wb := (ct_fault_Wrap b (Er.s kind (mid tick))).moreG g.1
  have wa := (ct_fault_Wrap a (Er.f b (Er.s kind (mid tick)))).moreG g.1
  have ow := (ct_Of (Er.f a (Er.f b (Er.s kind (mid tick))))).moreG g.1
  have eS := ct_Err_text hF (Er.s kind (mid tick)) (by simp only [Er.leaf]; rw [hj, ht]; exact cF) trivial (by simp [Er.deep])
  have eF := ct_Err_text hF (Er.f a (Er.f b (Er.s kind (mid tick)))) (by simp only [Er.leaf]; rw [hj, ht]; exact cF) (by simp [Er.short]; omega) (by simp [Er.deep])
  simp only [CtErr, Er.text, Er.v, Er.leaf] at eS eF n wb wa oe ow
  repeat' first
    | simp -dsimp [ic4, ba_size, c1, c1', c2, c2']
    | (with_reducible refine (CallD.pure (aw) (by simp) ?_).callV)
    | (with_reducible refine (CallD.pure (n) (by simp) ?_).callV)
    | (with_reducible refine (CallD.pure (o0) (by simp) ?_).callV)
    | (with_reducible refine (CallD.pure (oe) (by simp) ?_).callV)
    | (with_reducible refine (CallD.pure (ow) (by simp) ?_).callV)
    | (with_reducible refine (CallD.pure (wa) (by simp) ?_).callV)
    | (with_reducible refine (CallD.pure (wb) (by simp) ?_).callV)
    | (with_reducible refine (CallD.pure (w0) (by simp) ?_).callV)
    | (with_reducible refine (CallD.pure (wb0) (by simp) ?_).callV)
    | (with_reducible refine (CallD.pure (cc) (by simp) ?_).callV)
    | (with_reducible refine (CallD.pure (i0) (by simp) ?_).callV)
    | (with_reducible refine (CallD.pure (p0) (by simp) ?_).callV)
    | (with_reducible refine ordI (by kernel_rfl) ?_)
  refine ⟨_, _, mErrorF _, ?_⟩
  repeat' first
    | simp -dsimp [ba_size, ba_app]
    | (with_reducible refine (CallD.pure (eF) (by simp) ?_).callV)
    | (with_reducible refine ordI (by kernel_rfl) ?_)
  refine ⟨by omega, by omega, by omega, _, _, mErrorS _, ?_⟩
  have wr : ∀ T : Int, mid tick = T → 0 ≤ T → T ≤ 1099511627775 → (tick < 0 ∨ 1099511627775 < tick ∨ T = tick) := fun T h _ _ => by
    rcases Int.lt_or_le tick 0 with h0 | h0
    · exact .inl h0
    rcases Int.lt_or_le 1099511627775 tick with h1 | h1
    · exact .inr (.inl h1)
    · exact .inr (.inr (by rw [← h, mid_id h0 h1]))
  generalize mid tick = T at *
  simp -dsimp
  repeat' first
    | simp -dsimp [ba_size, ba_app, m0, m1]
    | (with_reducible refine (CallD.pure (eS) (by simp) ?_).callV)
    | (with_reducible refine ordI (by kernel_rfl) ?_)
  refine ⟨by omega, ?_⟩
  by_cases t0 : tick < 0
  · repeat' first
      | simp -dsimp [t0, m0, m1]
      | (with_reducible refine ordI (by kernel_rfl) ?_)
    exact exitV.now rfl
  by_cases t1 : 1099511627775 < tick
  · repeat' first
      | simp -dsimp [t0, t1, m0, m1]
      | (with_reducible refine ordI (by kernel_rfl) ?_)
    exact exitV.now rfl
  have e : T = tick := by have := wr T rfl m0 m1; omega
  repeat' first
    | simp -dsimp [t0, t1, e, m0, m1]
    | (with_reducible refine ordI (by kernel_rfl) ?_)
  exact exitV.now rfl
end Go.Proofs.YtnoigkdecjeilaaDoor
